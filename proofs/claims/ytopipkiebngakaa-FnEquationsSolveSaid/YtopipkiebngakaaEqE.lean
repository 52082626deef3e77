/- What the functions that the law reaches compute. -/
import Derived.Test.YtopipkiebngakaaEqD
import Derived.Test.YtopipkiebngakaaEqA
section
set_option maxRecDepth 10000
set_option maxHeartbeats 16000000
set_option linter.unusedSimpArgs false
set_option linter.unusedVariables false
namespace Go.Am
open Go.Proofs Go.Sort Go.Shelf
theorem hGraphOf (ds : List Tm) (hs : SmTs ds) (hl : ds.length ≤ 1000) (t : Tm) (ht : SmT t) : ∃ (g : Gr) (ok : Bool),SmallG g ∧ callI H 32 [encT false t,encQ false ds] [] = some (.tup [encG true true g,.b ok],[]) := by
  obtain ⟨g,ok,h1,h2,h⟩ := eqGraphOf ds hs hl t ht
  refine ⟨g,ok,⟨by omega,fun l hl => by have := h2 l hl; omega⟩, ?_⟩
  rw [callI_prim' (p := viaP G 32 id) rfl]
  simpa only [viaP,List.map_cons,List.map_nil,id] using h
theorem encQ_two (ds : List Tm) : (ds = [] ∧ encQ true ds = .nils ∧ encQ false ds = .nils) ∨ (ds ≠ [] ∧ encQ true ds = .sl true 3 (encTs true ds) ∧ encQ false ds = .sl false 3 (encTs false ds)) := by
  cases ds with
  | nil => exact .inl ⟨rfl,rfl,rfl⟩
  | cons p ps => exact .inr ⟨by simp,by simp [encQ,encTs],by simp [encQ,encTs]⟩
theorem eqCalled (o : Stack) (id : Id) (hid : id.1 < o.length) (B : List Nat) (p : Int) (hr : RdrOK B p) (hp : p + 4000 ≤ 1000000000) :
    ∃ t ds q,p ≤ q ∧ q ≤ p + 4000 ∧ SmT t ∧ SmTs ds ∧ ds.length ≤ 3 ∧ callI H 44 [.ref id 1 0 0] (setS o id (rd B p)) = some (.tup [encT true t,encQ true ds],setS o id (rd B q)) := by
  have hne2 : ¬ id.1 = o.length := by omega
  obtain ⟨ds,q1,a1,a2,a3,a4,a5⟩ := defsF o id hid B p hr (by omega)
  obtain ⟨t,q2,b1,b2,b3,b4⟩ := termF o id hid B q1 ds.length (hr.next (by omega) (by omega)) a4 (by omega)
  obtain ⟨to,tn,tp,rfl,ht⟩ := encT_two t
  rcases encQ_two ds with ⟨rfl,d1,_⟩ | ⟨hd,d1,_⟩
  · refine ⟨.mk to tn tp,[],q2,by omega,by omega,b3,a3,by simp, ?_⟩
    rw [d1] at a5 ⊢
    simp only [List.length_nil,show ((0 : Nat) : Int) = 0 from rfl] at b4
    rw [callI_eq]
    rcases ht with ⟨rfl,ht⟩ | ⟨ht,hE⟩ <;> rw [ht] at b4 ⊢ <;> simp [body1_eq _ _ (gpH 44) g44,c44,a44,hne2,setS_len,a5,b4,encTs_len]
  · have hl := encTs_len true ds
    have hpos : (0 : Int) < ds.length := by
      have : ds.length ≠ 0 := fun e => hd (List.length_eq_zero_iff.1 e)
      omega
    have hpos2 : 0 < ds.length := by omega
    obtain ⟨k,c1,c2,c3⟩ := pickF o id hid B q2 3 (hr.next (by omega) (by omega)) (by omega) (by omega)
    rw [d1] at a5
    by_cases hk : k = 0
    · subst hk
      obtain ⟨j,e1,e2,e3⟩ := pickF o id hid B (q2 + 1) ds.length (hr.next (by omega) (by omega)) (by omega) (by omega)
      refine ⟨.mk 5 j [],ds,q2 + 1 + 1,by omega,by omega,by unfold SmT SmTs; exact ⟨by omega,by omega,by simp,trivial⟩,a3,a4, ?_⟩
      rw [d1]
      generalize encTs true ds = E at *
      generalize ds.length = n at *
      subst hl
      rw [callI_eq]
      rcases ht with ⟨rfl,ht⟩ | ⟨ht,hE⟩ <;> rw [ht] at b4 <;> simp [body1_eq _ _ (gpH 44) g44,c44,a44,hne2,setS_len,a5,b4,encTs_len,hpos,hpos2,c3,e3,encT,encQ]
    · refine ⟨.mk to tn tp,ds,q2 + 1,by omega,by omega,b3,a3,a4, ?_⟩
      rw [d1]
      generalize encTs true ds = E at *
      generalize ds.length = n at *
      subst hl
      rw [callI_eq]
      rcases ht with ⟨rfl,ht⟩ | ⟨ht,hE⟩ <;> rw [ht] at b4 ⊢ <;> simp [body1_eq _ _ (gpH 44) g44,c44,a44,hne2,setS_len,a5,b4,encTs_len,hpos,hpos2,c3,hk]
theorem calledF (o : Stack) (id : Id) (hid : id.1 < o.length) (B : List Nat) (p : Int) (hr : RdrOK B p) (hp : p + 4000 ≤ 1000000000) :
    ∃ t ds q,p ≤ q ∧ q ≤ p + 4000 ∧ SmT t ∧ SmTs ds ∧ ds.length ≤ 3 ∧ callI H 44 [.ref id 1 0 0] (setS o id (rd B p) ++ [[]]) = some (.tup [encT true t,encQ true ds],setS o id (rd B q) ++ [[]]) := by
  obtain ⟨t,ds,q,h1,h2,h3,h4,h5,h6⟩ := eqCalled (o ++ [[]]) id (hidA hid) B p hr hp
  exact ⟨t,ds,q,h1,h2,h3,h4,h5,frC hid h6⟩
theorem eqDrawG (o : Stack) (id : Id) (hid : id.1 < o.length) (B : List Nat) (p : Int) (hr : RdrOK B p) (hp : p + 10000 ≤ 1000000000) :
    ∃ g q,p ≤ q ∧ q ≤ p + 10000 ∧ SmallG g ∧ callI H 30 [.ref id 1 0 0] (setS o id (rd B p)) = some (encG true true g,setS o id (rd B q)) := by
  have hne2 : ¬ id.1 = o.length := by omega
  obtain ⟨k,a1,a2,c1⟩ := pickF o id hid B p 2 hr (by omega) (by omega)
  by_cases hk : k = 0
  · subst hk
    obtain ⟨t,ds,q1,b1,b2,b3,b4,b5,b6⟩ := calledF o id hid B (p + 1) (hr.next (by omega) (by omega)) (by omega)
    obtain ⟨g,ok,sg,hG⟩ := hGraphOf ds b4 (by omega) t b3
    obtain ⟨g2,q2,w1,w2,w3,w4⟩ := wildF o id hid B q1 6 (by omega) (by omega) (hr.next (by omega) (by omega)) (by omega)
    simp only [show ((6 : Nat) : Int) = 6 from rfl] at w4
    have hns := noShares_encGs true g
    have hft := fal_encT t
    have hfq := fal_encQ ds
    obtain ⟨to,tn,tp,rfl,ht⟩ := encT_two t
    cases ok with
    | true =>
      refine ⟨g,q1,by omega,by omega,sg, ?_⟩
      simp only [encG] at hG ⊢
      rw [callI_eq]
      rcases encQ_two ds with ⟨rfl,d1,d2⟩ | ⟨hd,d1,d2⟩ <;> rw [d1] at b6 hfq <;> rw [d2] at hG hfq <;> rcases ht with ⟨rfl,ht⟩ | ⟨ht,hE⟩ <;> rw [ht] at b6 hft <;> simp only [fal,fals] at hft hfq <;> rw [← hft] at hG <;> rcases encM_two true true g with ⟨e,_⟩ | e <;> rw [e] at hG ⊢ <;>
        (try (simp only [PV.sl.injEq,true_and] at hfq; rw [← hfq] at hG)
         simp [body1_eq _ _ (gpH 30) g30,c30,a30,hne2,setS_len,c1,b6,hG,encTs_len,hns,encGs_len])
    | false =>
      refine ⟨g2,q2,by omega,by omega,w3.small, ?_⟩
      have hns2 := noShares_encGs true g2
      simp only [encG] at hG w4 ⊢
      rw [callI_eq]
      rcases encQ_two ds with ⟨rfl,d1,d2⟩ | ⟨hd,d1,d2⟩ <;> rw [d1] at b6 hfq <;> rw [d2] at hG hfq <;> rcases ht with ⟨rfl,ht⟩ | ⟨ht,hE⟩ <;> rw [ht] at b6 hft <;> simp only [fal,fals] at hft hfq <;> rw [← hft] at hG <;> rcases encM_two true true g with ⟨e,_⟩ | e <;> rw [e] at hG <;> rcases encM_two true true g2 with ⟨e',_⟩ | e' <;> rw [e'] at w4 ⊢ <;>
        (try (simp only [PV.sl.injEq,true_and] at hfq; rw [← hfq] at hG)
         simp [body1_eq _ _ (gpH 30) g30,c30,a30,hne2,setS_len,c1,b6,hG,w4,encTs_len,hns,hns2,encGs_len])
  · obtain ⟨g2,q2,w1,w2,w3,w4⟩ := wildF o id hid B (p + 1) 6 (by omega) (by omega) (hr.next (by omega) (by omega)) (by omega)
    simp only [show ((6 : Nat) : Int) = 6 from rfl] at w4
    refine ⟨g2,q2,by omega,by omega,w3.small, ?_⟩
    simp only [encG] at w4 ⊢
    rw [callI_eq]
    rcases encM_two true true g2 with ⟨e',_⟩ | e' <;> rw [e'] at w4 ⊢ <;> simp [body1_eq _ _ (gpH 30) g30,c30,a30,hne2,setS_len,c1,hk,w4,encGs_len]
theorem drawGF (o : Stack) (id : Id) (hid : id.1 < o.length) (B : List Nat) (p : Int) (hr : RdrOK B p) (hp : p + 10000 ≤ 1000000000) :
    ∃ g q,p ≤ q ∧ q ≤ p + 10000 ∧ SmallG g ∧ callI H 30 [.ref id 1 0 0] (setS o id (rd B p) ++ [[]]) = some (encG true true g,setS o id (rd B q) ++ [[]]) := by
  obtain ⟨g,q,h1,h2,h3,h4⟩ := eqDrawG (o ++ [[]]) id (hidA hid) B p hr hp
  exact ⟨g,q,h1,h2,h3,frC hid h4⟩
end Go.Am
end
section
set_option maxRecDepth 10000
set_option maxHeartbeats 4000000
set_option linter.unusedSimpArgs false
set_option linter.unusedVariables false
namespace Go.Am
open Go.Proofs Go.Sort Go.Shelf
mutual
theorem tree_encT (u : Bool) : ∀ t : Tm,tree (encT u t) = true
  | .mk o n ps => by simp only [encT,tree,trees,Bool.true_and,Bool.and_true]; exact tree_encQ u ps
theorem tree_encQ (u : Bool) : ∀ ps : List Tm,tree (encQ u ps) = true
  | [] => rfl
  | p :: ps => by simp only [encQ,tree,trees]; rw [tree_encT u p,trees_encTs u ps]; rfl
theorem trees_encTs (u : Bool) : ∀ ps : List Tm,trees (encTs u ps) = true
  | [] => rfl
  | p :: ps => by simp only [encTs,trees]; rw [tree_encT u p,trees_encTs u ps]; rfl
end
mutual
theorem fal_encTF : ∀ t : Tm,fal (encT false t) = encT false t
  | .mk o n ps => by simp only [encT,fal,fals]; rw [fal_encQF ps]
theorem fal_encQF : ∀ ps : List Tm,fal (encQ false ps) = encQ false ps
  | [] => rfl
  | p :: ps => by simp only [encQ,fal,fals]; rw [fal_encTF p,fals_encTsF ps]
theorem fals_encTsF : ∀ ps : List Tm,fals (encTs false ps) = encTs false ps
  | [] => rfl
  | p :: ps => by simp only [encTs,fals]; rw [fal_encTF p,fals_encTsF ps]
end
theorem encQ_twoF (ds : List Tm) : (ds = [] ∧ encQ false ds = .nils) ∨ encQ false ds = .sl false 3 (encTs false ds) := by
  cases ds with
  | nil => exact .inl ⟨rfl,rfl⟩
  | cons p ps => exact .inr (by simp [encQ,encTs])
theorem encM_twoF (q : Gr) : encM' true false q = .nils ∨ encM' true false q = .sl false 1 (encGs true false q) := by
  rcases encM_two true false q with ⟨h,_⟩ | h
  · exact .inl h
  · exact .inr h
theorem encQ_twoG (ps : List Tm) : encQ false ps = .nils ∨ encQ false ps = .sl false 3 (encTs false ps) := by
  rcases encQ_twoF ps with ⟨_,h⟩ | h
  · exact .inl h
  · exact .inr h
section
variable (gg : Gr)
@[simp ↓ high] theorem cellP_M : cellP (encM' true false gg) = true := by rcases encM_twoF gg with h | h <;> rw [h] <;> rfl
@[simp ↓ high] theorem cells_M : (encM' true false gg).cells = [encM' true false gg] := by rcases encM_twoF gg with h | h <;> rw [h] <;> rfl
@[simp ↓ high] theorem sure_M : sure (encM' true false gg) = true := by rcases encM_twoF gg with h | h <;> rw [h] <;> rfl
@[simp ↓ high] theorem plain_M : plain (encM' true false gg) = true := by rcases encM_twoF gg with h | h <;> rw [h] <;> rfl
@[simp ↓ high] theorem atLvl_M (n) : atLvl n (encM' true false gg) = false := by rcases encM_twoF gg with h | h <;> rw [h] <;> rfl
@[simp ↓ high] theorem noRef_M : noRef (encM' true false gg) = true := by rcases encM_twoF gg with h | h <;> rw [h] <;> rfl
@[simp ↓ high] theorem upTo_M (n) : upTo n (encM' true false gg) = true := by rcases encM_twoF gg with h | h <;> rw [h] <;> rfl
@[simp ↓ high] theorem known_M (g n) : known g n (encM' true false gg) = true := by rcases encM_twoF gg with h | h <;> rw [h] <;> rfl
@[simp ↓ high] theorem snap_M (g) : snap g (encM' true false gg) = some (encM' true false gg) := by rcases encM_twoF gg with h | h <;> rw [h] <;> rfl
@[simp ↓ high] theorem snapE_M (g) : snapE g (encM' true false gg) = some (encM' true false gg) := by rcases encM_twoF gg with h | h <;> rw [h] <;> rfl
@[simp ↓ high] theorem rowId_M (g) : rowId g (encM' true false gg) = [] := by rcases encM_twoF gg with h | h <;> rw [h] <;> rfl
@[simp ↓ high] theorem rowIdE_M (g) : rowIdE g (encM' true false gg) = [] := by rcases encM_twoF gg with h | h <;> rw [h] <;> rfl
@[simp ↓ high] theorem expo1_M (n g) : expo1 n g (encM' true false gg) = some (encM' true false gg,[]) := by rcases encM_twoF gg with h | h <;> rw [h] <;> rfl
@[simp ↓ high] theorem expoC_M (n g) : expoC n g (encM' true false gg) = some (encM' true false gg,[]) := by rcases encM_twoF gg with h | h <;> rw [h] <;> rfl
@[simp ↓ high] theorem impo1_M (n d q) : impo1 n d (encM' true false gg) q = (encM' true false gg,q,[]) := by rcases encM_twoF gg with h | h <;> rw [h] <;> rfl
@[simp ↓ high] theorem pack1_M (mv g) : pack1 mv g (encM' true false gg) = some (encM' true false gg,[]) := by rcases encM_twoF gg with h | h <;> rw [h] <;> rfl
@[simp ↓ high] theorem expoE_M (n g) : expoE n g (encM' true false gg) = some (encM' true false gg,[]) := by rcases encM_twoF gg with h | h <;> rw [h] <;> rfl
@[simp ↓ high] theorem expo_M (n g) : expo n g (encM' true false gg) = some (encM' true false gg,[]) := by rcases encM_twoF gg with h | h <;> rw [h] <;> rfl
@[simp ↓ high] theorem impoE_M (n d q) : impoE n d (encM' true false gg) q = (encM' true false gg,q,[]) := by rcases encM_twoF gg with h | h <;> rw [h] <;> rfl
@[simp ↓ high] theorem impo_M (n d q) : impo n d (encM' true false gg) q = (encM' true false gg,q,[]) := by rcases encM_twoF gg with h | h <;> rw [h] <;> rfl
@[simp ↓ high] theorem packE_M (mv g) : packE mv g (encM' true false gg) = some (encM' true false gg,[]) := by rcases encM_twoF gg with h | h <;> rw [h] <;> rfl
end
section
variable (ps : List Tm)
@[simp ↓ high] theorem cellP_Q : cellP (encQ false ps) = true := by rcases encQ_twoG ps with h | h <;> rw [h] <;> rfl
@[simp ↓ high] theorem cells_Q : (encQ false ps).cells = [encQ false ps] := by rcases encQ_twoG ps with h | h <;> rw [h] <;> rfl
@[simp ↓ high] theorem sure_Q : sure (encQ false ps) = true := by rcases encQ_twoG ps with h | h <;> rw [h] <;> rfl
@[simp ↓ high] theorem plain_Q : plain (encQ false ps) = true := by rcases encQ_twoG ps with h | h <;> rw [h] <;> rfl
@[simp ↓ high] theorem atLvl_Q (n) : atLvl n (encQ false ps) = false := by rcases encQ_twoG ps with h | h <;> rw [h] <;> rfl
@[simp ↓ high] theorem noRef_Q : noRef (encQ false ps) = true := by rcases encQ_twoG ps with h | h <;> rw [h] <;> rfl
@[simp ↓ high] theorem upTo_Q (n) : upTo n (encQ false ps) = true := by rcases encQ_twoG ps with h | h <;> rw [h] <;> rfl
@[simp ↓ high] theorem known_Q (g n) : known g n (encQ false ps) = true := by rcases encQ_twoG ps with h | h <;> rw [h] <;> rfl
@[simp ↓ high] theorem snap_Q (g) : snap g (encQ false ps) = some (encQ false ps) := by rcases encQ_twoG ps with h | h <;> rw [h] <;> rfl
@[simp ↓ high] theorem snapE_Q (g) : snapE g (encQ false ps) = some (encQ false ps) := by rcases encQ_twoG ps with h | h <;> rw [h] <;> rfl
@[simp ↓ high] theorem rowId_Q (g) : rowId g (encQ false ps) = [] := by rcases encQ_twoG ps with h | h <;> rw [h] <;> rfl
@[simp ↓ high] theorem rowIdE_Q (g) : rowIdE g (encQ false ps) = [] := by rcases encQ_twoG ps with h | h <;> rw [h] <;> rfl
@[simp ↓ high] theorem expo1_Q (n g) : expo1 n g (encQ false ps) = some (encQ false ps,[]) := by rcases encQ_twoG ps with h | h <;> rw [h] <;> rfl
@[simp ↓ high] theorem expoC_Q (n g) : expoC n g (encQ false ps) = some (encQ false ps,[]) := by rcases encQ_twoG ps with h | h <;> rw [h] <;> rfl
@[simp ↓ high] theorem impo1_Q (n d q) : impo1 n d (encQ false ps) q = (encQ false ps,q,[]) := by rcases encQ_twoG ps with h | h <;> rw [h] <;> rfl
@[simp ↓ high] theorem pack1_Q (mv g) : pack1 mv g (encQ false ps) = some (encQ false ps,[]) := by rcases encQ_twoG ps with h | h <;> rw [h] <;> rfl
@[simp ↓ high] theorem expoE_Q (n g) : expoE n g (encQ false ps) = some (encQ false ps,[]) := by rcases encQ_twoG ps with h | h <;> rw [h] <;> rfl
@[simp ↓ high] theorem expo_Q (n g) : expo n g (encQ false ps) = some (encQ false ps,[]) := by rcases encQ_twoG ps with h | h <;> rw [h] <;> rfl
@[simp ↓ high] theorem impoE_Q (n d q) : impoE n d (encQ false ps) q = (encQ false ps,q,[]) := by rcases encQ_twoG ps with h | h <;> rw [h] <;> rfl
@[simp ↓ high] theorem impo_Q (n d q) : impo n d (encQ false ps) q = (encQ false ps,q,[]) := by rcases encQ_twoG ps with h | h <;> rw [h] <;> rfl
@[simp ↓ high] theorem packE_Q (mv g) : packE mv g (encQ false ps) = some (encQ false ps,[]) := by rcases encQ_twoG ps with h | h <;> rw [h] <;> rfl
end
@[simp high] theorem c_lenM (n d : Nat) (g : Id → Option OB) (gg : Gr) : core1 n d g .len [encM' true false gg] = some (.i gg.length,[]) := by
  rcases encM_two true false gg with ⟨h,e⟩ | h <;> rw [h]
  · subst e; simp
  · simp
theorem encT_open (o n : Int) (ps : List Tm) : encT false (.mk o n ps) = .agg [.i o,.i n,encQ false ps] := by simp only [encT]
@[simp ↓ high] theorem exK_Q (ps : List Tm) : exK (some (encQ false ps)) = some (encQ false ps,[]) := by rcases encQ_twoG ps with h | h <;> rw [h] <;> rfl
@[simp ↓ high] theorem exK_M (gg : Gr) : exK (some (encM' true false gg)) = some (encM' true false gg,[]) := by rcases encM_twoF gg with h | h <;> rw [h] <;> rfl
@[simp ↓ high] theorem fal_Q (ps : List Tm) : fal (encQ false ps) = encQ false ps := fal_encQF ps
@[simp high] theorem c_lenQ (n d : Nat) (g : Id → Option OB) (ps : List Tm) : core1 n d g .len [encQ false ps] = some (.i ps.length,[]) := by
  rcases encQ_twoF ps with ⟨rfl,h⟩ | h <;> rw [h]
  · simp
  · simp [encTs_len]
end Go.Am
end
section
set_option maxRecDepth 10000
set_option maxHeartbeats 16000000
set_option linter.unusedSimpArgs false
set_option linter.unusedVariables false
namespace Go.Am
open Go.Proofs Go.Sort Go.Shelf
theorem mPick {args : List PV} {o : Stack} {x : Option (PV × Stack)} (h : callI H 25 args o = x) : callI M 25 args o = x := by
  rw [callI_prim' (p := viaP H 25 id) rfl]
  simpa only [viaP,List.map_id_fun,id] using h
theorem mDo {args : List PV} {o : Stack} {x : Option (PV × Stack)} (h : callI H 47 args o = x) : callI M 47 args o = x := by
  rw [callI_prim' (p := viaP H 47 id) rfl]
  simpa only [viaP,List.map_id_fun,id] using h
theorem mCalled {args : List PV} {o o' : Stack} {t : Tm} {ds : List Tm} (h : callI H 44 args o = some (.tup [encT true t,encQ true ds],o')) : callI M 44 args o = some (.tup [encT false t,encQ false ds],o') := by
  rw [callI_prim' (p := lowTP H 44 id) rfl]
  simp only [lowTP,viaP,List.map_id_fun,id,h,lowTR,trees,tree_encT,tree_encQ,Bool.and_self,if_true,fals,fal_encT,fal_encQ]
theorem mTerm {args : List PV} {o o' : Stack} {t : Tm} (h : callI H 46 args o = some (encT true t,o')) : callI M 46 args o = some (encT false t,o') := by
  rw [callI_prim' (p := lowXP H 46 id) rfl]
  simp only [lowXP,viaP,List.map_id_fun,id,h,lowXR,tree_encT,if_true,fal_encT]
def TrT (T : PV) (t : Tm) : Prop := tree T = true ∧ fal T = encT false t
theorem TrT.enc (t : Tm) : TrT (encT false t) t := ⟨tree_encT false t,fal_encTF t⟩
theorem TrT.mk {o n : Int} {xs : List PV} {p : Tm} {ps : List Tm} (h1 : trees xs = true) (h2 : fals xs = encTs false (p :: ps)) : TrT (.agg [.i o,.i n,.sl true 3 xs]) (.mk o n (p :: ps)) := by
  refine ⟨by simp [tree,trees,h1], ?_⟩
  simp only [fal,fals,h2,encT,encQ,encTs]
theorem SmT.of {o n : Int} {ps : List Tm} (h1 : -9223372036854775808 ≤ o ∧ o ≤ 9223372036854775807) (h2 : -9223372036854775808 ≤ n ∧ n ≤ 9223372036854775807) (h3 : ps.length ≤ 3) (h4 : SmTs ps) : SmT (.mk o n ps) := by
  unfold SmT; exact ⟨h1,h2,h3,h4⟩
theorem SmTs.cons {p : Tm} {ps : List Tm} (h1 : SmT p) (h2 : SmTs ps) : SmTs (p :: ps) := by
  unfold SmTs; exact ⟨h1,h2⟩
theorem SmTs.nil : SmTs [] := by unfold SmTs; trivial
theorem SmT.zero : SmT (.mk 0 0 []) := SmT.of (by omega) (by omega) (by simp) SmTs.nil
theorem eqPair (o : Stack) (id : Id) (hid : id.1 < o.length) (B : List Nat) (p : Int) (hr : RdrOK B p) (hp : p + 6000 ≤ 1000000000) :
    ∃ t u ds q T U,p ≤ q ∧ q ≤ p + 6000 ∧ SmT t ∧ SmT u ∧ SmTs ds ∧ ds.length ≤ 3 ∧ TrT T t ∧ TrT U u ∧ callI M 31 [.ref id 1 0 0] (setS o id (rd B p)) = some (.tup [T,U,encQ false ds],setS o id (rd B q)) := by
  have hne2 : ¬ id.1 = o.length := by omega
  obtain ⟨t,ds,q1,a1,a2,st,sds,ld,a3⟩ := calledF o id hid B p hr (by omega)
  have a3 := mCalled a3
  obtain ⟨u,q2,b1,b2,su,b3⟩ := termF o id hid B q1 ds.length (hr.next (by omega) (by omega)) ld (by omega)
  have b3 := mTerm b3
  obtain ⟨k,c1,c2,c3⟩ := pickF o id hid B q2 5 (hr.next (by omega) (by omega)) (by omega) (by omega)
  have c3 := mPick c3
  have hk : k = 0 ∨ k = 1 ∨ k = 2 ∨ k = 3 ∨ k = 4 := by omega
  have ft := fal_encTF t
  have tt := tree_encT false t
  have hD : (ds = [] ∧ callI M 46 [.ref id 1 0 0,.i 0] (setS o id (rd B q1) ++ [[]]) = some (encT false u,setS o id (rd B q2) ++ [[]])) ∨ encQ false ds = .sl false 3 (encTs false ds) := by
    rcases encQ_twoF ds with ⟨rfl,_⟩ | e
    · exact .inl ⟨rfl,b3⟩
    · exact .inr e
  have hlen := encTs_len false ds
  have et : ∃ to tn tp,t = .mk to tn tp := by cases t; exact ⟨_,_,_,rfl⟩
  have eu : ∃ uo un up,u = .mk uo un up := by cases u; exact ⟨_,_,_,rfl⟩
  obtain ⟨uo,un,up,rfl⟩ := eu
  rcases hk with rfl | rfl | rfl | rfl | rfl
  · refine ⟨t,.mk 2 0 [t,t],ds,q2 + 1,encT false t,.agg [.i 2,.i 0,.sl true 3 [encT false t,encT false t]],by omega,by omega,st,SmT.of (by omega) (by omega) (by simp) (SmTs.cons st (SmTs.cons st SmTs.nil)),sds,ld,TrT.enc t,TrT.mk (by simp [trees,tt]) (by simp [fals,ft,encTs]), ?_⟩
    obtain ⟨to,tn,tp,rfl⟩ := et
    rw [encT_open] at a3 b3 hD ⊢
    rcases hD with ⟨rfl,hb⟩ | hd
    · simp only [encQ] at a3 ⊢
      rw [callI_eq]
      simp [body1_eq _ _ (gpM 31) g31,c31,a31,hne2,setS_len,a3,hb,c3]
    · rw [hd] at a3 ⊢
      rw [callI_eq]
      simp [body1_eq _ _ (gpM 31) g31,c31,a31,hne2,setS_len,a3,b3,c3,hlen]
  · refine ⟨t,.mk 3 0 [t,.mk 0 0 []],ds,q2 + 1,encT false t,.agg [.i 3,.i 0,.sl true 3 [encT false t,.agg [.i 0,.i 0,.nils]]],by omega,by omega,st,SmT.of (by omega) (by omega) (by simp) (SmTs.cons st (SmTs.cons SmT.zero SmTs.nil)),sds,ld,TrT.enc t,TrT.mk (by simp [trees,tree,tt]) (by simp [fals,fal,ft,encTs,encT,encQ]), ?_⟩
    obtain ⟨to,tn,tp,rfl⟩ := et
    rw [encT_open] at a3 b3 hD ⊢
    rcases hD with ⟨rfl,hb⟩ | hd
    · simp only [encQ] at a3 ⊢
      rw [callI_eq]
      simp [body1_eq _ _ (gpM 31) g31,c31,a31,hne2,setS_len,a3,hb,c3]
    · rw [hd] at a3 ⊢
      rw [callI_eq]
      simp [body1_eq _ _ (gpM 31) g31,c31,a31,hne2,setS_len,a3,b3,c3,hlen]
  · obtain ⟨to,tn,tp,rfl⟩ := et
    by_cases h2 : (to = 2 ∨ to = 3) ∧ ∃ x y,tp = [x,y]
    · obtain ⟨hto,x,y,rfl⟩ := h2
      have sx : SmT x ∧ SmT y := by
        unfold SmT at st
        have h := st.2.2.2
        unfold SmTs at h
        have h2 := h.2
        unfold SmTs at h2
        exact ⟨h.1,h2.1⟩
      refine ⟨.mk to tn [x,y],.mk to 0 [y,x],ds,q2 + 1,encT false (.mk to tn [x,y]),.agg [.i to,.i 0,.sl true 3 [encT false y,encT false x]],by omega,by omega,st,SmT.of (by omega) (by omega) (by simp) (SmTs.cons sx.2 (SmTs.cons sx.1 SmTs.nil)),sds,ld,TrT.enc _,TrT.mk (by simp [trees,tree_encT]) (by simp [fals,fal_encTF,encTs]), ?_⟩
      have e : encT false (.mk to tn [x,y]) = .agg [.i to,.i tn,.sl false 3 [encT false x,encT false y]] := by simp [encT,encQ,encTs]
      rw [e] at a3 ⊢
      rw [encT_open] at b3 hD
      obtain ⟨xo,xn,xp⟩ := x
      obtain ⟨yo,yn,yp⟩ := y
      rw [encT_open,encT_open] at a3 ⊢
      rcases hto with rfl | rfl
      · rcases hD with ⟨rfl,hb⟩ | hd
        · simp only [encQ] at a3 ⊢
          rw [callI_eq]
          simp [body1_eq _ _ (gpM 31) g31,c31,a31,hne2,setS_len,a3,hb,c3]
        · rw [hd] at a3 ⊢
          rw [callI_eq]
          simp [body1_eq _ _ (gpM 31) g31,c31,a31,hne2,setS_len,a3,b3,c3,hlen]
      · rcases hD with ⟨rfl,hb⟩ | hd
        · simp only [encQ] at a3 ⊢
          rw [callI_eq]
          simp [body1_eq _ _ (gpM 31) g31,c31,a31,hne2,setS_len,a3,hb,c3]
        · rw [hd] at a3 ⊢
          rw [callI_eq]
          simp [body1_eq _ _ (gpM 31) g31,c31,a31,hne2,setS_len,a3,b3,c3,hlen]
    · refine ⟨.mk to tn tp,.mk uo un up,ds,q2 + 1,encT false (.mk to tn tp),encT false (.mk uo un up),by omega,by omega,st,su,sds,ld,TrT.enc _,TrT.enc _, ?_⟩
      have hlt : to = 2 ∨ to = 3 → ¬ tp.length = 2 := by
        intro h3 h4
        match tp,h4 with
        | [x,y],_ => exact h2 ⟨h3,x,y,rfl⟩
      clear h2
      rw [encT_open] at a3 b3 hD ⊢
      rw [encT_open]
      by_cases h22 : to = 2
      · have hq := hlt (.inl h22)
        have hq2 : ¬ (tp.length : Int) = 2 := by omega
        subst h22
        rcases hD with ⟨rfl,hb⟩ | hd
        · simp only [encQ] at a3 ⊢
          rw [callI_eq]
          simp [body1_eq _ _ (gpM 31) g31,c31,a31,hne2,setS_len,a3,hb,c3,hq,hq2]
        · rw [hd] at a3 ⊢
          rw [callI_eq]
          simp [body1_eq _ _ (gpM 31) g31,c31,a31,hne2,setS_len,a3,b3,c3,hlen,hq,hq2]
      · by_cases h33 : to = 3
        · have hq := hlt (.inr h33)
          have hq2 : ¬ (tp.length : Int) = 2 := by omega
          subst h33
          rcases hD with ⟨rfl,hb⟩ | hd
          · simp only [encQ] at a3 ⊢
            rw [callI_eq]
            simp [body1_eq _ _ (gpM 31) g31,c31,a31,hne2,setS_len,a3,hb,c3,hq,hq2]
          · rw [hd] at a3 ⊢
            rw [callI_eq]
            simp [body1_eq _ _ (gpM 31) g31,c31,a31,hne2,setS_len,a3,b3,c3,hlen,hq,hq2]
        · rcases hD with ⟨rfl,hb⟩ | hd
          · simp only [encQ] at a3 ⊢
            rw [callI_eq]
            simp [body1_eq _ _ (gpM 31) g31,c31,a31,hne2,setS_len,a3,hb,c3,h22,h33]
          · rw [hd] at a3 ⊢
            rw [callI_eq]
            simp [body1_eq _ _ (gpM 31) g31,c31,a31,hne2,setS_len,a3,b3,c3,hlen,h22,h33]
  · obtain ⟨a,q3,d1,d2,d3,d4,d5⟩ := doF o id hid B (q2 + 1) (hr.next (by omega) (by omega)) (by omega)
    have d5 := mDo d5
    have s1 : SmT (.mk 1 a [t]) := SmT.of (by omega) (by omega) (by simp) (SmTs.cons st SmTs.nil)
    have s2 : SmT (.mk 1 0 [t]) := SmT.of (by omega) (by omega) (by simp) (SmTs.cons st SmTs.nil)
    refine ⟨.mk 1 a [t],.mk 1 a [.mk 1 0 [t]],ds,q3,.agg [.i 1,.i a,.sl true 3 [encT false t]],.agg [.i 1,.i a,.sl true 3 [.agg [.i 1,.i 0,.sl true 3 [encT false t]]]],by omega,by omega,s1,SmT.of (by omega) (by omega) (by simp) (SmTs.cons s2 SmTs.nil),sds,ld,TrT.mk (by simp [trees,tt]) (by simp [fals,ft,encTs]),TrT.mk (by simp [trees,tree,tt]) (by simp [fals,fal,ft,encTs,encT,encQ]), ?_⟩
    obtain ⟨to,tn,tp,rfl⟩ := et
    rw [encT_open] at a3 b3 hD ⊢
    rcases hD with ⟨rfl,hb⟩ | hd
    · simp only [encQ] at a3 ⊢
      rw [callI_eq]
      simp [body1_eq _ _ (gpM 31) g31,c31,a31,hne2,setS_len,a3,hb,c3,d5]
    · rw [hd] at a3 ⊢
      rw [callI_eq]
      simp [body1_eq _ _ (gpM 31) g31,c31,a31,hne2,setS_len,a3,b3,c3,hlen,d5]
  · refine ⟨t,.mk uo un up,ds,q2 + 1,encT false t,encT false (.mk uo un up),by omega,by omega,st,su,sds,ld,TrT.enc t,TrT.enc _, ?_⟩
    obtain ⟨to,tn,tp,rfl⟩ := et
    rw [encT_open] at a3 b3 hD ⊢
    rw [encT_open]
    rcases hD with ⟨rfl,hb⟩ | hd
    · simp only [encQ] at a3 ⊢
      rw [callI_eq]
      simp [body1_eq _ _ (gpM 31) g31,c31,a31,hne2,setS_len,a3,hb,c3]
    · rw [hd] at a3 ⊢
      rw [callI_eq]
      simp [body1_eq _ _ (gpM 31) g31,c31,a31,hne2,setS_len,a3,b3,c3,hlen]
theorem pairF (o : Stack) (id : Id) (hid : id.1 < o.length) (B : List Nat) (p : Int) (hr : RdrOK B p) (hp : p + 6000 ≤ 1000000000) :
    ∃ t u ds q,p ≤ q ∧ q ≤ p + 6000 ∧ SmT t ∧ SmT u ∧ SmTs ds ∧ ds.length ≤ 3 ∧ callI N 31 [.ref id 1 0 0] (setS o id (rd B p) ++ [[]]) = some (.tup [encT false t,encT false u,encQ false ds],setS o id (rd B q) ++ [[]]) := by
  obtain ⟨t,u,ds,q,T,U,h1,h2,h3,h4,h5,h6,h7,h8,h9⟩ := eqPair (o ++ [[]]) id (hidA hid) B p hr hp
  refine ⟨t,u,ds,q,h1,h2,h3,h4,h5,h6, ?_⟩
  rw [setS_app _ _ _ _ hid,setS_app _ _ _ _ hid] at h9
  rw [callI_prim' (p := lowTP M 31 _root_.id) rfl]
  simp only [lowTP,viaP,List.map_id_fun,_root_.id,h9,lowTR,trees,h7.1,h8.1,tree_encQ,Bool.and_self,if_true,fals,h7.2,h8.2,fal_encQF]
end Go.Am
end
section
set_option maxRecDepth 10000
set_option maxHeartbeats 1000000
set_option linter.unusedSimpArgs false
set_option linter.unusedVariables false
namespace Go.Am
open Go.Proofs Go.Sort Go.Shelf
def clAt (cl : List Int) (x : Int) : Int := cl.getD x.toNat 0
def hasM (cl : List Int) (act to : Int) (m : Mv) : Bool := decide (m.1 = act) && decide (clAt cl m.2 = to)
def hasL (cl : List Int) (l : List Mv) (act to : Int) : Bool := l.any (hasM cl act to)
theorem loopHas (E : List PV) (g : Gr) (hE : EncR false E g) (cl : List Int) (hcl : cl.length = g.length) (s : Int) (hs : 0 ≤ s ∧ s < g.length) (L : List Mv) (hL : g.getD s.toNat [] = L) (hLl : L.length ≤ 1048576) (hto : ∀ m ∈ L,0 ≤ m.2 ∧ m.2 < g.length) (act to : Int) : ∀ (rest done : List Mv),L = done ++ rest →
    ∃ r,loopI G [1,2,3,4,5,11] [5] c43l0 ⟨[(1,.i s),(2,.i act),(3,.sl false 1 (cl.map PV.i)),(4,.i to),(5,.ref (0,5) 1 0 0),(11,.i done.length)],[(5,.box [PV.sl false 1 E])],[]⟩ = some r ∧
      ((hasL cl rest act to = true ∧ r = (.ret,⟨[(10,.b true)],[],[]⟩)) ∨ (hasL cl rest act to = false ∧ r = (.exit 0,⟨[(1,.i s),(2,.i act),(3,.sl false 1 (cl.map PV.i)),(4,.i to),(5,.ref (0,5) 1 0 0),(11,.i L.length),(20,.b false)],[(5,.box [PV.sl false 1 E])],[]⟩)))
  | [],done,hd => by
    rw [List.append_nil] at hd
    subst hd
    have hEl := hE.1
    have hsn : s.toNat < g.length := by omega
    obtain ⟨nl,hat⟩ := hE.2 s.toNat hsn
    rw [hL] at hat
    have hs1 := hs.1
    have hs2 := hs.2
    refine ⟨_, ?_,.inr ⟨rfl,rfl⟩⟩
    clear hE
    rw [loopI_eq]
    rcases encL_two nl false L with ⟨e,e2⟩ | e
    · rw [e] at hat
      subst e2
      simp [r43l0,b43l0,hEl,hs1,hs2,hat]
    · rw [e] at hat
      simp [r43l0,b43l0,hEl,hs1,hs2,hat]
  | m :: rest,done,hd => by
    have hEl := hE.1
    have hsn : s.toNat < g.length := by omega
    obtain ⟨nl,hat⟩ := hE.2 s.toNat hsn
    rw [hL] at hat
    have hs1 := hs.1
    have hs2 := hs.2
    have hen : encL nl false L = .sl false 2 (L.map mvP) := encL_ne (by rw [hd]; simp)
    rw [hen] at hat
    have hLl2 : L.length = done.length + (rest.length + 1) := by rw [hd]; simp
    have hlt : (done.length : Int) < L.length := by omega
    have hlt2 : done.length < L.length := by omega
    have hw : IntKind.i64.wrap ((done.length : Int) + 1) = (done.length : Int) + 1 := wr (by omega)
    have hat2 : nth (L.map mvP) done.length = some (mvP m) := by rw [hd]; exact mv_at done m rest
    have hm := hto m (by rw [hd]; simp)
    have hm1 := hm.1
    have hm2 := hm.2
    have hc : nth (cl.map PV.i) m.2.toNat = some (.i (clAt cl m.2)) := int_nth cl m.2.toNat (by omega)
    have hcl2 : (cl.map PV.i).length = g.length := by simp [hcl]
    obtain ⟨r,hn,hr⟩ := loopHas E g hE cl hcl s hs L hL hLl hto act to rest (done ++ [m]) (by simpa using hd)
    simp only [List.length_append,List.length_cons,List.length_nil,Int.natCast_add,show ((0 + 1 : Nat) : Int) = 1 from rfl] at hn
    have hml : (L.map mvP).length = L.length := by simp
    clear hE
    generalize hM : L.map mvP = M at hat hat2 hml
    generalize hC : cl.map PV.i = C at hc hcl2 hn hr ⊢
    simp only [mvP] at hat2
    by_cases c1 : m.1 = act
    · by_cases c2 : clAt cl m.2 = to
      · refine ⟨_, ?_,.inl ⟨by simp [hasL,hasM,c1,c2],rfl⟩⟩
        rw [loopI_eq]
        simp [r43l0,b43l0,hEl,hs1,hs2,hat,hat2,hml,hlt,hlt2,hm1,hm2,hc,hcl2,c1,c2,unAgg]
      · refine ⟨r, ?_,by simpa [hasL,hasM,c1,c2] using hr⟩
        rw [loopI_eq]
        simp [r43l0,b43l0,hEl,hs1,hs2,hat,hat2,hml,hlt,hlt2,hm1,hm2,hc,hcl2,c1,c2,unAgg,hw]
        exact hn
    · refine ⟨r, ?_,by simpa [hasL,hasM,c1] using hr⟩
      rw [loopI_eq]
      simp [r43l0,b43l0,hEl,hs1,hs2,hat,hat2,hml,hlt,hlt2,hm1,hm2,hc,hcl2,c1,unAgg,hw]
      exact hn
theorem eqHas (E : List PV) (g : Gr) (hE : EncR false E g) (cl : List Int) (hcl : cl.length = g.length) (s : Int) (hs : 0 ≤ s ∧ s < g.length) (hsm : SmallG g) (hto : OkTo g) (act to : Int) :
    callI G 43 [.agg [.sl false 1 E],.i s,.i act,.sl false 1 (cl.map PV.i),.i to] [] = some (.b (hasL cl (g.getD s.toNat []) act to),[]) := by
  have hsn : s.toNat < g.length := by omega
  have hLl : (g.getD s.toNat []).length ≤ 1048576 := hsm.2 _ (by rw [List.getD_eq_getElem?_getD,List.getElem?_eq_getElem hsn,Option.getD_some]; exact List.getElem_mem hsn)
  obtain ⟨r,hn,hr⟩ := loopHas E g hE cl hcl s hs _ rfl hLl (hto.row _) act to (g.getD s.toNat []) [] rfl
  simp only [List.length_nil,show ((0 : Nat) : Int) = 0 from rfl] at hn
  rw [callI_eq]
  rcases hr with ⟨h1,rfl⟩ | ⟨h1,rfl⟩
  · rw [h1]
    simp [body1_eq _ _ (gp 43) g43,c43,a43,hn]
  · rw [h1]
    simp [body1_eq _ _ (gp 43) g43,c43,a43,hn]
end Go.Am
end
section
set_option maxRecDepth 10000
set_option maxHeartbeats 1000000
set_option linter.unusedSimpArgs false
set_option linter.unusedVariables false
namespace Go.Am
open Go.Proofs Go.Sort Go.Shelf
def covL (cl : List Int) (L M : List Mv) : Bool := L.all fun m => hasL cl M m.1 (clAt cl m.2)
theorem loopCov (E : List PV) (g : Gr) (hE : EncR false E g) (cl : List Int) (hcl : cl.length = g.length) (s t : Int) (hs : 0 ≤ s ∧ s < g.length) (ht : 0 ≤ t ∧ t < g.length) (hsm : SmallG g) (hok : OkTo g) (L : List Mv) (hL : g.getD s.toNat [] = L) (hLl : L.length ≤ 1048576) (hto : ∀ m ∈ L,0 ≤ m.2 ∧ m.2 < g.length) : ∀ (rest done : List Mv),L = done ++ rest →
    ∃ r,loopI G [1,2,3,4,9] [4] c70l0 ⟨[(1,.i s),(2,.i t),(3,.sl false 1 (cl.map PV.i)),(4,.ref (0,4) 1 0 0),(9,.i done.length)],[(4,.box [PV.sl false 1 E])],[]⟩ = some r ∧
      ((covL cl rest (g.getD t.toNat []) = false ∧ r = (.ret,⟨[(8,.b false)],[],[]⟩)) ∨ (covL cl rest (g.getD t.toNat []) = true ∧ r = (.exit 0,⟨[(1,.i s),(2,.i t),(3,.sl false 1 (cl.map PV.i)),(4,.ref (0,4) 1 0 0),(9,.i L.length),(18,.b false)],[(4,.box [PV.sl false 1 E])],[]⟩)))
  | [],done,hd => by
    rw [List.append_nil] at hd
    subst hd
    have hEl := hE.1
    have hsn : s.toNat < g.length := by omega
    obtain ⟨nl,hat⟩ := hE.2 s.toNat hsn
    rw [hL] at hat
    have hs1 := hs.1
    have hs2 := hs.2
    refine ⟨_, ?_,.inr ⟨rfl,rfl⟩⟩
    clear hE
    rw [loopI_eq]
    rcases encL_two nl false L with ⟨e,e2⟩ | e
    · rw [e] at hat
      subst e2
      simp [r70l0,b70l0,hEl,hs1,hs2,hat]
    · rw [e] at hat
      simp [r70l0,b70l0,hEl,hs1,hs2,hat]
  | m :: rest,done,hd => by
    have hEl := hE.1
    have hsn : s.toNat < g.length := by omega
    obtain ⟨nl,hat⟩ := hE.2 s.toNat hsn
    rw [hL] at hat
    have hs1 := hs.1
    have hs2 := hs.2
    have hen : encL nl false L = .sl false 2 (L.map mvP) := encL_ne (by rw [hd]; simp)
    rw [hen] at hat
    have hLl2 : L.length = done.length + (rest.length + 1) := by rw [hd]; simp
    have hlt : (done.length : Int) < L.length := by omega
    have hlt2 : done.length < L.length := by omega
    have hw : IntKind.i64.wrap ((done.length : Int) + 1) = (done.length : Int) + 1 := wr (by omega)
    have hat2 : nth (L.map mvP) done.length = some (mvP m) := by rw [hd]; exact mv_at done m rest
    have hm := hto m (by rw [hd]; simp)
    have hm1 := hm.1
    have hm2 := hm.2
    have hc : nth (cl.map PV.i) m.2.toNat = some (.i (clAt cl m.2)) := int_nth cl m.2.toNat (by omega)
    have hcl2 : (cl.map PV.i).length = g.length := by simp [hcl]
    have hh := eqHas E g hE cl hcl t ht hsm hok m.1 (clAt cl m.2)
    obtain ⟨r,hn,hr⟩ := loopCov E g hE cl hcl s t hs ht hsm hok L hL hLl hto rest (done ++ [m]) (by simpa using hd)
    simp only [List.length_append,List.length_cons,List.length_nil,Int.natCast_add,show ((0 + 1 : Nat) : Int) = 1 from rfl] at hn
    have hml : (L.map mvP).length = L.length := by simp
    clear hE
    generalize hM : L.map mvP = M at hat hat2 hml
    generalize hC : cl.map PV.i = C at hc hcl2 hn hr hh ⊢
    simp only [mvP] at hat2
    cases hv : hasL cl (g.getD t.toNat []) m.1 (clAt cl m.2) with
    | false =>
      rw [hv] at hh
      refine ⟨_, ?_,.inl ⟨by simp only [covL,List.all_cons,hv,Bool.false_and],rfl⟩⟩
      rw [loopI_eq]
      simp [r70l0,b70l0,hEl,hs1,hs2,hat,hat2,hml,hlt,hlt2,hm1,hm2,hc,hcl2,unAgg,hh]
    | true =>
      rw [hv] at hh
      refine ⟨r, ?_,by simpa only [covL,List.all_cons,hv,Bool.true_and] using hr⟩
      rw [loopI_eq]
      simp [r70l0,b70l0,hEl,hs1,hs2,hat,hat2,hml,hlt,hlt2,hm1,hm2,hc,hcl2,unAgg,hh,hw]
      exact hn
theorem eqCov (E : List PV) (g : Gr) (hE : EncR false E g) (cl : List Int) (hcl : cl.length = g.length) (s t : Int) (hs : 0 ≤ s ∧ s < g.length) (ht : 0 ≤ t ∧ t < g.length) (hsm : SmallG g) (hok : OkTo g) :
    callI G 70 [.agg [.sl false 1 E],.i s,.i t,.sl false 1 (cl.map PV.i)] [] = some (.b (covL cl (g.getD s.toNat []) (g.getD t.toNat [])),[]) := by
  have hsn : s.toNat < g.length := by omega
  have hLl : (g.getD s.toNat []).length ≤ 1048576 := hsm.2 _ (by rw [List.getD_eq_getElem?_getD,List.getElem?_eq_getElem hsn,Option.getD_some]; exact List.getElem_mem hsn)
  obtain ⟨r,hn,hr⟩ := loopCov E g hE cl hcl s t hs ht hsm hok _ rfl hLl (hok.row _) (g.getD s.toNat []) [] rfl
  simp only [List.length_nil,show ((0 : Nat) : Int) = 0 from rfl] at hn
  rw [callI_eq]
  rcases hr with ⟨h1,rfl⟩ | ⟨h1,rfl⟩
  · rw [h1]
    simp [body1_eq _ _ (gp 70) g70,c70,a70,hn]
  · rw [h1]
    simp [body1_eq _ _ (gp 70) g70,c70,a70,hn]
end Go.Am
end
section
set_option maxRecDepth 10000
set_option maxHeartbeats 1000000
set_option linter.unusedSimpArgs false
set_option linter.unusedVariables false
namespace Go.Am
open Go.Proofs Go.Sort Go.Shelf
def smS (cl : List Int) (g : Gr) (s t : Nat) : Bool := decide (cl.getD t 0 = cl.getD s 0) && (covL cl (g.getD s []) (g.getD t []) && covL cl (g.getD t []) (g.getD s []))
def lst (P : Nat → Bool) : Nat → Nat → Nat
  | 0,b => b
  | t + 1,b => lst P t (if P t = true then t else b)
def nxt (cl : List Int) (g : Gr) (s : Nat) : Nat := lst (smS cl g s) s s
theorem loopNx0 (E : List PV) (g : Gr) (hE : EncR false E g) (cl : List Int) (hcl : cl.length = g.length) (hsm : SmallG g) (hok : OkTo g) (Y : PV) (YL : Objs) (xs : List PV) (hY : OwnS 50 1 Y YL xs) (s : Nat) (hs : s < g.length) : ∀ (t b : Nat),t ≤ s →
    loopI G [1,2,5,6,7,8] [2,9,50] c54l0 ⟨[(1,.sl false 1 (cl.map PV.i)),(2,.ref (0,2) 1 0 0),(5,Y),(6,.i s),(7,.i b),(8,.i ((t : Int) - 1))],(2,.box [PV.sl false 1 E]) :: YL,[]⟩ =
      some (.exit 2,⟨[(1,.sl false 1 (cl.map PV.i)),(2,.ref (0,2) 1 0 0),(5,Y),(6,.i s),(7,.i (lst (smS cl g s) t b)),(8,.i (-1)),(20,.b false)],(2,.box [PV.sl false 1 E]) :: YL,[]⟩)
  | 0,b,ht => by
    rw [loopI_eq]
    rcases hY with ⟨rfl,rfl,rfl⟩ | ⟨hxs,rfl,rfl⟩
    · simp [r54l0,b54l0,lst]
    · simp [r54l0,b54l0,lst]
  | t + 1,b,ht => by
    have hgl := hsm.1
    have htg : t < g.length := by omega
    have hti : (t : Int) < g.length := by omega
    have hsi : (s : Int) < g.length := by omega
    have h8 : ((t + 1 : Nat) : Int) - 1 = t := by omega
    have hw : IntKind.i64.wrap ((t : Int) - 1) = (t : Int) - 1 := wr (by omega)
    have hcl2 : (cl.map PV.i).length = g.length := by simp [hcl]
    have hct := int_nth cl t (by omega)
    have hcs := int_nth cl s (by omega)
    have k1 := eqCov E g hE cl hcl s t (by omega) (by omega) hsm hok
    have k2 := eqCov E g hE cl hcl t s (by omega) (by omega) hsm hok
    simp only [Int.toNat_natCast] at k1 k2
    have hn := loopNx0 E g hE cl hcl hsm hok Y YL xs hY s hs t (if smS cl g s t = true then t else b) (by omega)
    rw [h8]
    have hl : lst (smS cl g s) (t + 1) b = lst (smS cl g s) t (if smS cl g s t = true then t else b) := rfl
    rw [hl]
    clear hE hl
    generalize hC : cl.map PV.i = C at hcl2 hct hcs k1 k2 hn ⊢
    have ht0 : (0 : Int) ≤ t := by omega
    by_cases c1 : cl.getD t 0 = cl.getD s 0
    · cases c2 : covL cl (g.getD s []) (g.getD t []) with
      | false =>
        have hS : smS cl g s t = false := by simp only [smS,c1,c2,decide_true,Bool.false_and,Bool.and_false]
        rw [hS] at hn
        rw [c2] at k1
        rw [← c1] at hcs
        simp only [Bool.false_eq_true,if_false] at hn
        rw [hS]
        generalize lst (smS cl g s) t = LL at hn ⊢
        simp only [Bool.false_eq_true,if_false]
        rw [loopI_eq]
        rcases hY with ⟨rfl,rfl,rfl⟩ | ⟨hxs,rfl,rfl⟩
        · simp [r54l0,b54l0,hcl2,hs,htg,hti,hsi,hct,hcs,k1,hw]
          exact hn
        · simp [r54l0,b54l0,hcl2,hs,htg,hti,hsi,hct,hcs,k1,hw]
          exact hn
      | true =>
        rw [c2] at k1
        rw [← c1] at hcs
        cases c3 : covL cl (g.getD t []) (g.getD s []) with
        | false =>
          have hS : smS cl g s t = false := by simp only [smS,c1,c2,c3,decide_true,Bool.true_and]
          rw [hS] at hn
          rw [c3] at k2
          simp only [Bool.false_eq_true,if_false] at hn
          rw [hS]
          generalize lst (smS cl g s) t = LL at hn ⊢
          simp only [Bool.false_eq_true,if_false]
          rw [loopI_eq]
          rcases hY with ⟨rfl,rfl,rfl⟩ | ⟨hxs,rfl,rfl⟩
          · simp [r54l0,b54l0,hcl2,hs,htg,hti,hsi,hct,hcs,k1,k2,hw]
            exact hn
          · simp [r54l0,b54l0,hcl2,hs,htg,hti,hsi,hct,hcs,k1,k2,hw]
            exact hn
        | true =>
          have hS : smS cl g s t = true := by simp only [smS,c1,c2,c3,decide_true,Bool.true_and]
          rw [hS] at hn
          rw [c3] at k2
          simp only [if_true] at hn
          rw [hS]
          generalize lst (smS cl g s) t = LL at hn ⊢
          simp only [if_true]
          rw [loopI_eq]
          rcases hY with ⟨rfl,rfl,rfl⟩ | ⟨hxs,rfl,rfl⟩
          · simp [r54l0,b54l0,hcl2,hs,htg,hti,hsi,hct,hcs,k1,k2,hw]
            exact hn
          · simp [r54l0,b54l0,hcl2,hs,htg,hti,hsi,hct,hcs,k1,k2,hw]
            exact hn
    · have hS : smS cl g s t = false := by simp only [smS,c1,decide_false,Bool.false_and]
      rw [hS] at hn
      simp only [Bool.false_eq_true,if_false] at hn
      rw [hS]
      generalize lst (smS cl g s) t = LL at hn ⊢
      generalize cl.getD t 0 = ct at hct c1
      generalize cl.getD s 0 = cs at hcs c1
      simp only [Bool.false_eq_true,if_false]
      rw [loopI_eq]
      rcases hY with ⟨rfl,rfl,rfl⟩ | ⟨hxs,rfl,rfl⟩
      · simp [r54l0,b54l0,hcl2,hs,htg,hti,hsi,hct,hcs,c1,hw]
        exact hn
      · simp [r54l0,b54l0,hcl2,hs,htg,hti,hsi,hct,hcs,c1,hw]
        exact hn
def owIP (d : Nat) (l : List Int) : PV := if l = [] then .nils else .own (0,d) l.length
def owIL (d : Nat) (l : List Int) : Objs := if l = [] then [] else [(d,.row 1 (l.map PV.i))]
theorem owI_S (d : Nat) (l : List Int) : OwnS d 1 (owIP d l) (owIL d l) (l.map PV.i) := by
  unfold owIP owIL
  by_cases h : l = []
  · exact .inl ⟨by simp [h],by simp [h],by simp [h]⟩
  · exact .inr ⟨by simp [h],by simp [h],by simp [h]⟩
def nextC (cl : List Int) (g : Gr) : List Int := (List.range g.length).map fun s => (nxt cl g s : Int)
theorem nextC_len (cl : List Int) (g : Gr) : (nextC cl g).length = g.length := by simp [nextC]
theorem loopNx1 (E : List PV) (g : Gr) (hE : EncR false E g) (cl : List Int) (hcl : cl.length = g.length) (hsm : SmallG g) (hok : OkTo g) : ∀ (n s : Nat),s + n = g.length → ∀ O : List Int,O = (List.range s).map (fun s => (nxt cl g s : Int)) →
    loopI G [1,2,5,6] [2,9,50] c54l1 ⟨[(1,.sl false 1 (cl.map PV.i)),(2,.ref (0,2) 1 0 0),(5,owIP 50 O),(6,.i s)],(2,.box [PV.sl false 1 E]) :: owIL 50 O,[]⟩ =
      some (.exit 0,⟨[(1,.sl false 1 (cl.map PV.i)),(2,.ref (0,2) 1 0 0),(5,owIP 50 (nextC cl g)),(6,.i g.length),(13,.b false)],(2,.box [PV.sl false 1 E]) :: owIL 50 (nextC cl g),[]⟩)
  | 0,s,hs,O,hO => by
    have he : s = g.length := by omega
    subst he
    have hOn : O = nextC cl g := hO
    rw [← hOn]
    have hcl2 : (cl.map PV.i).length = g.length := by simp [hcl]
    generalize hC : cl.map PV.i = C at hcl2 ⊢
    rw [loopI_eq]
    by_cases hd : O = []
    · subst hd
      simp [r54l1,b54l1,owIP,owIL,hcl2]
    · simp [r54l1,b54l1,owIP,owIL,hd,hcl2]
  | n + 1,s,hs,O,hO => by
    have hgl := hsm.1
    have hOl : O.length = s := by rw [hO]; simp
    have hsg : s < g.length := by omega
    have hsi : (s : Int) < g.length := by omega
    have hw : IntKind.i64.wrap ((s : Int) + 1) = (s : Int) + 1 := wr (by omega)
    have hw1 : IntKind.i64.wrap ((s : Int) - 1) = (s : Int) - 1 := wr (by omega)
    have hcl2 : (cl.map PV.i).length = g.length := by simp [hcl]
    have h0 := loopNx0 E g hE cl hcl hsm hok _ _ _ (owI_S 50 O) s hsg s s (Nat.le_refl _)
    have hnx : lst (smS cl g s) s s = nxt cl g s := rfl
    rw [hnx] at h0
    have hn := loopNx1 E g hE cl hcl hsm hok n (s + 1) (by omega) (O ++ [(nxt cl g s : Int)]) (by rw [hO,List.range_succ]; simp)
    have hne : O ++ [(nxt cl g s : Int)] ≠ [] := by simp
    have hol : O.length ≤ 4294967295 := by omega
    simp only [owIP,owIL,hne,if_false,List.length_append,List.length_cons,List.length_nil,Nat.zero_add,Int.natCast_add,show ((1 : Nat) : Int) = 1 from rfl] at hn
    clear hE
    generalize hC : cl.map PV.i = C at hcl2 h0 hn ⊢
    generalize nxt cl g s = v at h0 hn
    rw [loopI_eq]
    by_cases hd : O = []
    · subst hd
      simp [owIP,owIL] at h0 hn
      simp [r54l1,b54l1,owIP,owIL,hcl2,hsi,hsg,hw,hw1,h0]
      exact hn
    · simp only [owIP,owIL,hd,if_false] at h0
      simp at hn
      simp [r54l1,b54l1,owIP,owIL,hd,hcl2,hsi,hsg,hw,hw1,h0,hol]
      exact hn
theorem eqNext (E : List PV) (g : Gr) (hE : EncR false E g) (cl : List Int) (hcl : cl.length = g.length) (hsm : SmallG g) (hok : OkTo g) (hg : 1 ≤ g.length) :
    callI G 54 [.agg [.sl false 1 E],.sl false 1 (cl.map PV.i)] [] = some (.sl true 1 ((nextC cl g).map PV.i),[]) := by
  have l1 := loopNx1 E g hE cl hcl hsm hok g.length 0 (by omega) [] rfl
  have hne : nextC cl g ≠ [] := by
    intro e
    have := congrArg List.length e
    rw [nextC_len] at this
    simp at this
    rw [this] at hg; simp at hg
  simp only [owIP,owIL,hne,if_false,if_true,show ((0 : Nat) : Int) = 0 from rfl] at l1
  rw [callI_eq]
  simp [body1_eq _ _ (gp 54) g54,c54,a54,l1]
end Go.Am
end
section
set_option maxRecDepth 10000
set_option maxHeartbeats 1000000
set_option linter.unusedSimpArgs false
set_option linter.unusedVariables false
namespace Go.Am
open Go.Proofs Go.Sort Go.Shelf
theorem ii_at (a : List Int) (x : Int) (b : List Int) : nth ((a ++ x :: b).map PV.i) a.length = some (.i x) := by
  unfold nth; simp
theorem loopSame (p q : List Int) : ∀ (a b : List Int),a.length = b.length → p.length = q.length → (p ++ a).length ≤ 4611686018427387904 →
    ∃ r,loopI G [0,1,5] [] c55l0 ⟨[(0,.sl false 1 ((p ++ a).map PV.i)),(1,.sl false 1 ((q ++ b).map PV.i)),(5,.i p.length)],[],[]⟩ = some r ∧
      ((a ≠ b ∧ r = (.ret,⟨[(4,.b false)],[],[]⟩)) ∨ (a = b ∧ r = (.exit 0,⟨[(0,.sl false 1 ((p ++ a).map PV.i)),(1,.sl false 1 ((q ++ b).map PV.i)),(5,.i (p ++ a).length),(14,.b false)],[],[]⟩))) := by
  intro a
  induction a generalizing p q with
  | nil =>
    intro b hab hpq hl
    have hb : b = [] := List.length_eq_zero_iff.1 hab.symm
    subst hb
    refine ⟨_, ?_,.inr ⟨rfl,rfl⟩⟩
    rw [loopI_eq]
    simp [r55l0,b55l0]
  | cons x a ih =>
    intro b hab hpq hl
    cases b with
    | nil => cases hab
    | cons y b =>
      have hab' : a.length = b.length := by simpa using hab
      have hA := ii_at p x a
      have hB := ii_at q y b
      rw [← hpq] at hB
      have hll : (p ++ x :: a).length = p.length + (a.length + 1) := by simp
      have hlq : (q ++ y :: b).length = p.length + (a.length + 1) := by simp; omega
      have hlA : ((p ++ x :: a).map PV.i).length = p.length + (a.length + 1) := by simp
      have hlB : ((q ++ y :: b).map PV.i).length = p.length + (a.length + 1) := by simp; omega
      have hlt : (p.length : Int) < (p.length : Int) + ((a.length : Int) + 1) := by omega
      have hlt2 : p.length < p.length + (a.length + 1) := by omega
      have hw : IntKind.i64.wrap ((p.length : Int) + 1) = (p.length : Int) + 1 := wr (by omega)
      obtain ⟨r,hn,hr⟩ := ih (p ++ [x]) (q ++ [y]) b hab' (by simp [hpq]) (by simpa using hl)
      have e1 : p ++ [x] ++ a = p ++ x :: a := by simp
      have e2 : q ++ [y] ++ b = q ++ y :: b := by simp
      rw [e1,e2] at hn hr
      simp only [List.length_append,List.length_cons,List.length_nil,Int.natCast_add,show ((0 + 1 : Nat) : Int) = 1 from rfl] at hn
      generalize hX : (p ++ x :: a).map PV.i = X at hA hlA hn hr ⊢
      generalize hZ : (q ++ y :: b).map PV.i = Z at hB hlB hn hr ⊢
      by_cases c : x = y
      · subst c
        refine ⟨r, ?_,by simpa using hr⟩
        rw [loopI_eq]
        simp [r55l0,b55l0,hlA,hlB,hlt,hlt2,hA,hB,hw]
        exact hn
      · refine ⟨_, ?_,.inl ⟨by simp [c],rfl⟩⟩
        rw [loopI_eq]
        simp [r55l0,b55l0,hlA,hlB,hlt,hlt2,hA,hB,c]
theorem eqSame (a b : List Int) (h : a.length ≤ 4611686018427387904) : callI G 55 [.sl false 1 (a.map PV.i),.sl false 1 (b.map PV.i)] [] = some (.b (decide (a = b)),[]) := by
  rw [callI_eq]
  by_cases hl : a.length = b.length
  · obtain ⟨r,hn,hr⟩ := loopSame [] [] a b hl rfl (by simpa using h)
    simp only [List.nil_append,List.length_nil,show ((0 : Nat) : Int) = 0 from rfl] at hn hr
    have hli : (a.length : Int) = b.length := by omega
    rcases hr with ⟨h1,rfl⟩ | ⟨h1,rfl⟩
    · simp [body1_eq _ _ (gp 55) g55,c55,a55,hli,hn,h1]
    · subst h1
      simp [body1_eq _ _ (gp 55) g55,c55,a55,hn]
  · have hne : a ≠ b := fun e => hl (by rw [e])
    have hli : ¬ (a.length : Int) = b.length := by omega
    simp [body1_eq _ _ (gp 55) g55,c55,a55,hli,hne]
end Go.Am
end
section
set_option maxRecDepth 10000
set_option maxHeartbeats 1000000
set_option linter.unusedSimpArgs false
set_option linter.unusedVariables false
namespace Go.Am
open Go.Proofs Go.Sort Go.Shelf
def encI (l : List Int) : PV := .sl false 1 (l.map PV.i)
theorem fals_i : ∀ l : List Int,fals (l.map PV.i) = l.map PV.i
  | [] => rfl
  | x :: l => by simp only [List.map_cons,fals,fals_i l]; rfl
def Stops (g : Gr) : Nat → List Int → Prop
  | 0,_ => False
  | f + 1,last => nextC last g = last ∨ Stops g f (nextC last g)
def rnds (g : Gr) : Nat → List (List Int) → List Int → List (List Int)
  | 0,R,last => R ++ [last]
  | f + 1,R,last => if nextC last g = last then R ++ [last] else rnds g f (R ++ [last]) (nextC last g)
theorem loopRn (E : List PV) (g : Gr) (hE : EncR false E g) (hsm : SmallG g) (hok : OkTo g) (hg : 1 ≤ g.length) : ∀ (f : Nat) (R : List (List Int)) (last : List Int),Stops g f last → last.length = g.length → R.length + f ≤ 1000000 →
    loopI G [1,3] [1,9,30] c37l0 ⟨[(1,.ref (0,1) 1 0 0),(3,.own (0,9) (R.length + 1))],[(1,.box [.sl false 1 E]),(9,.row 1 ((R ++ [last]).map encI))],[]⟩ =
      some (.ret,⟨[(2,.own (0,9) (rnds g f R last).length)],[(9,.row 1 ((rnds g f R last).map encI))],[]⟩)
  | 0,R,last,hst,hl,hR => hst.elim
  | f + 1,R,last,hst,hl,hR => by
    have hgl := hsm.1
    have k1 := eqNext E g hE last hl hsm hok hg
    have k2 := eqSame (nextC last g) last (by rw [nextC_len]; omega)
    have hw : IntKind.i64.wrap ((R.length : Int) + 1 - 1) = R.length := by rw [wr (by omega)]; omega
    have hw3 : IntKind.i64.wrap (R.length : Int) = R.length := wr (by omega)
    have hlt : (R.length : Int) < (R.length : Int) + 1 := by omega
    have hat : nth ((R ++ [last]).map encI) R.length = some (.sl false 1 (last.map PV.i)) := by
      rw [List.map_append]; exact at_D _ _ _ _ (by simp)
    have hml : ((R ++ [last]).map encI).length = R.length + 1 := by simp
    have hRb : R.length + 1 ≤ 4294967295 := by omega
    by_cases he : nextC last g = last
    · have hr : rnds g (f + 1) R last = R ++ [last] := by simp [rnds,he]
      have hrl : (R ++ [last]).length = R.length + 1 := by simp
      rw [hr,hrl]
      rw [he] at k1 k2
      simp only [decide_true] at k2
      generalize hM : (R ++ [last]).map encI = M at hat hml ⊢
      rw [loopI_eq]
      simp [r37l0,b37l0,hw,hw3,hlt,hat,hml,k1,k2,fals_i]
    · have hr : rnds g (f + 1) R last = rnds g f (R ++ [last]) (nextC last g) := by simp [rnds,he]
      rw [hr]
      have hst2 : Stops g f (nextC last g) := hst.resolve_left he
      have hn := loopRn E g hE hsm hok hg f (R ++ [last]) (nextC last g) hst2 (nextC_len _ _) (by simp; omega)
      have e1 : (R ++ [last] ++ [nextC last g]).map encI = (R ++ [last]).map encI ++ [.sl false 1 ((nextC last g).map PV.i)] := by simp [encI]
      rw [e1] at hn
      simp only [List.length_append,List.length_cons,List.length_nil,Nat.zero_add] at hn
      simp only [he,decide_false] at k2
      generalize hM : (R ++ [last]).map encI = M at hat hml hn ⊢
      generalize nextC last g = N at k1 k2 hn
      rw [loopI_eq]
      simp [r37l0,b37l0,hw,hw3,hlt,hat,hml,k1,k2,hRb,fals_i]
      exact ⟨by omega,hn⟩
end Go.Am
end
section
set_option linter.unusedSimpArgs false
set_option linter.unusedVariables false
namespace Go.Am
theorem lst_spec (P : Nat → Bool) : ∀ (t b : Nat),(∃ u,u < t ∧ P u = true ∧ lst P t b = u ∧ ∀ v,v < u → P v = false) ∨ ((∀ u,u < t → P u = false) ∧ lst P t b = b)
  | 0,b => .inr ⟨fun u hu => absurd hu (Nat.not_lt_zero u),rfl⟩
  | t + 1,b => by
    simp only [lst]
    rcases lst_spec P t (if P t = true then t else b) with ⟨u,h1,h2,h3,h4⟩ | ⟨h1,h2⟩
    · exact .inl ⟨u,by omega,h2,h3,h4⟩
    · rw [h2]
      cases hv : P t with
      | true => exact .inl ⟨t,by omega,hv,by simp,h1⟩
      | false =>
        refine .inr ⟨fun u hu => ?_,by simp⟩
        by_cases e : u = t
        · rw [e]; exact hv
        · exact h1 u (by omega)
end Go.Am
end
section
set_option linter.unusedSimpArgs false
set_option linter.unusedVariables false
namespace Go.Am
theorem hasL_iff {cl : List Int} {l : List Mv} {act to : Int} : hasL cl l act to = true ↔ ∃ m ∈ l,m.1 = act ∧ clAt cl m.2 = to := by
  simp [hasL,hasM,List.any_eq_true]
theorem covL_iff {cl : List Int} {L M : List Mv} : covL cl L M = true ↔ ∀ m ∈ L,∃ k ∈ M,k.1 = m.1 ∧ clAt cl k.2 = clAt cl m.2 := by
  simp only [covL,List.all_eq_true,hasL_iff]
def alk (cl : List Int) (g : Gr) (s t : Nat) : Prop := cl.getD t 0 = cl.getD s 0 ∧ ∀ a c,(∃ m ∈ g.getD s [],m.1 = a ∧ clAt cl m.2 = c) ↔ (∃ m ∈ g.getD t [],m.1 = a ∧ clAt cl m.2 = c)
theorem smS_iff {cl : List Int} {g : Gr} {s t : Nat} : smS cl g s t = true ↔ alk cl g s t := by
  simp only [smS,Bool.and_eq_true,decide_eq_true_eq,covL_iff,alk]
  refine and_congr Iff.rfl ⟨fun h a c => ⟨?_, ?_⟩,fun h => ⟨fun m hm => ?_,fun m hm => ?_⟩⟩
  · rintro ⟨m,hm,rfl,rfl⟩
    obtain ⟨k,h1,h2,h3⟩ := h.1 m hm
    exact ⟨k,h1,h2,h3⟩
  · rintro ⟨m,hm,rfl,rfl⟩
    obtain ⟨k,h1,h2,h3⟩ := h.2 m hm
    exact ⟨k,h1,h2,h3⟩
  · exact (h m.1 (clAt cl m.2)).1 ⟨m,hm,rfl,rfl⟩
  · exact (h m.1 (clAt cl m.2)).2 ⟨m,hm,rfl,rfl⟩
theorem alk_refl (cl : List Int) (g : Gr) (s : Nat) : alk cl g s s := ⟨rfl,fun _ _ => Iff.rfl⟩
theorem alk_symm {cl : List Int} {g : Gr} {s t : Nat} (h : alk cl g s t) : alk cl g t s := ⟨h.1.symm,fun a c => (h.2 a c).symm⟩
theorem alk_trans {cl : List Int} {g : Gr} {s t u : Nat} (h : alk cl g s t) (h2 : alk cl g t u) : alk cl g s u := ⟨h2.1.trans h.1,fun a c => (h.2 a c).trans (h2.2 a c)⟩
theorem nxt_spec (cl : List Int) (g : Gr) (s : Nat) : nxt cl g s ≤ s ∧ alk cl g s (nxt cl g s) ∧ ∀ t,t < nxt cl g s → ¬ alk cl g s t := by
  unfold nxt
  rcases lst_spec (smS cl g s) s s with ⟨u,h1,h2,h3,h4⟩ | ⟨h1,h2⟩
  · rw [h3]
    exact ⟨by omega,smS_iff.1 h2,fun t ht h => by have := h4 t ht; rw [smS_iff.2 h] at this; cases this⟩
  · rw [h2]
    exact ⟨Nat.le_refl _,alk_refl _ _ _,fun t ht h => by have := h1 t ht; rw [smS_iff.2 h] at this; cases this⟩
theorem nxt_eq {cl : List Int} {g : Gr} {s t : Nat} : nxt cl g s = nxt cl g t ↔ alk cl g s t := by
  obtain ⟨a1,a2,a3⟩ := nxt_spec cl g s
  obtain ⟨b1,b2,b3⟩ := nxt_spec cl g t
  constructor
  · intro h
    rw [← h] at b2
    exact alk_trans a2 (alk_symm b2)
  · intro h
    rcases Nat.lt_trichotomy (nxt cl g s) (nxt cl g t) with h1 | h1 | h1
    · exact (b3 _ h1 (alk_trans (alk_symm h) a2)).elim
    · exact h1
    · exact (a3 _ h1 (alk_trans h b2)).elim
theorem nxt_nxt (cl : List Int) (g : Gr) (s : Nat) : nxt cl g (nxt cl g s) = nxt cl g s :=
  nxt_eq.2 (alk_symm (nxt_spec cl g s).2.1)
def NrmC (cl : List Int) : Prop := ∀ s,s < cl.length → ∃ u : Nat,cl.getD s 0 = u ∧ u ≤ s ∧ cl.getD u 0 = u
theorem nextC_at {cl : List Int} {g : Gr} {s : Nat} (hs : s < g.length) : (nextC cl g).getD s 0 = nxt cl g s := by
  rw [List.getD_eq_getElem?_getD,nextC,List.getElem?_map,List.getElem?_range hs]; rfl
theorem nextC_nrm (cl : List Int) (g : Gr) : NrmC (nextC cl g) := by
  intro s hs
  rw [nextC_len] at hs
  have h := nxt_spec cl g s
  refine ⟨nxt cl g s,nextC_at hs,h.1, ?_⟩
  rw [nextC_at (by omega),nxt_nxt]
def rts (cl : List Int) : Nat := (List.range cl.length).countP fun s => decide (cl.getD s 0 = (s : Int))
theorem countP_le (p q : Nat → Bool) : ∀ l : List Nat,(∀ x ∈ l,p x = true → q x = true) → l.countP p ≤ l.countP q ∧ (l.countP p = l.countP q → ∀ x ∈ l,q x = true → p x = true)
  | [],_ => ⟨Nat.le_refl _,fun _ x hx => by cases hx⟩
  | y :: l,h => by
    obtain ⟨h1,h2⟩ := countP_le p q l fun x hx => h x (List.mem_cons_of_mem _ hx)
    have hy := h y List.mem_cons_self
    simp only [List.countP_cons]
    cases ep : p y with
    | true =>
      have eq := hy ep
      simp only [eq,if_true]
      refine ⟨by omega,fun e x hx hq => ?_⟩
      rcases List.mem_cons.1 hx with rfl | hx
      · exact ep
      · exact h2 (by omega) x hx hq
    | false =>
      cases eq : q y with
      | true =>
        simp only [if_true,Bool.false_eq_true,if_false]
        exact ⟨by omega,fun e => by omega⟩
      | false =>
        simp only [Bool.false_eq_true,if_false]
        refine ⟨by omega,fun e x hx hq => ?_⟩
        rcases List.mem_cons.1 hx with rfl | hx
        · rw [eq] at hq; cases hq
        · exact h2 (by omega) x hx hq
theorem nxt_root {cl : List Int} {g : Gr} (hn : NrmC cl) (hl : cl.length = g.length) {s : Nat} (hs : s < g.length) (h : cl.getD s 0 = s) : nxt cl g s = s := by
  obtain ⟨a1,a2,_⟩ := nxt_spec cl g s
  obtain ⟨u,b1,b2,_⟩ := hn (nxt cl g s) (by omega)
  have := a2.1
  rw [b1,h] at this
  omega
theorem rts_grow {cl : List Int} {g : Gr} (hn : NrmC cl) (hl : cl.length = g.length) : rts cl ≤ rts (nextC cl g) ∧ (rts cl = rts (nextC cl g) → nextC cl g = cl) := by
  have hlen := nextC_len cl g
  have key := countP_le (fun s => decide (cl.getD s 0 = (s : Int))) (fun s => decide ((nextC cl g).getD s 0 = (s : Int))) (List.range g.length) (by
    intro s hs h
    have hs := List.mem_range.1 hs
    have h := of_decide_eq_true h
    rw [nextC_at hs,nxt_root hn hl hs h]; simp)
  unfold rts
  rw [hlen,hl]
  refine ⟨key.1,fun e => ?_⟩
  have k2 := key.2 e
  apply List.ext_getElem (by rw [hlen,hl])
  intro s h1 h2
  have hs : s < g.length := by omega
  have hsp := nxt_spec cl g s
  have e1 : (nextC cl g)[s] = nxt cl g s := by
    have := nextC_at (cl := cl) hs
    rwa [List.getD_eq_getElem?_getD,List.getElem?_eq_getElem h1,Option.getD_some] at this
  have e2 : cl[s] = cl.getD s 0 := by rw [List.getD_eq_getElem?_getD,List.getElem?_eq_getElem h2,Option.getD_some]
  have k3 := k2 (nxt cl g s) (List.mem_range.2 (by omega)) (by rw [nextC_at (by omega),nxt_nxt]; simp)
  have k3 := of_decide_eq_true k3
  rw [e1,e2,← hsp.2.1.1,k3]
theorem rts_le (cl : List Int) : rts cl ≤ cl.length := by
  unfold rts
  exact Nat.le_trans List.countP_le_length (by simp)
theorem stops (g : Gr) : ∀ (f : Nat) (cl : List Int),NrmC cl → cl.length = g.length → g.length < f + rts cl → Stops g f cl
  | 0,cl,hn,hl,hf => by have := rts_le cl; omega
  | f + 1,cl,hn,hl,hf => by
    by_cases h : nextC cl g = cl
    · exact .inl h
    · have hg := rts_grow hn hl
      have hne : rts cl ≠ rts (nextC cl g) := fun e => h (hg.2 e)
      exact .inr (stops g f _ (nextC_nrm _ _) (nextC_len _ _) (by omega))
def zer (n : Nat) : List Int := List.replicate n 0
theorem zer_at (n s : Nat) : (zer n).getD s 0 = 0 := by
  unfold zer
  rw [List.getD_eq_getElem?_getD,List.getElem?_replicate]
  by_cases h : s < n <;> simp [h]
theorem zer_nrm (n : Nat) : NrmC (zer n) := fun s _ => ⟨0,by rw [zer_at]; rfl,Nat.zero_le _,by rw [zer_at]; rfl⟩
theorem zer_len (n : Nat) : (zer n).length = n := by simp [zer]
theorem stops0 (g : Gr) : Stops g (g.length + 1) (zer g.length) := stops g _ _ (zer_nrm _) (zer_len _) (by omega)
def itC (g : Gr) : Nat → List Int → List Int
  | 0,cl => cl
  | f + 1,cl => itC g f (nextC cl g)
theorem itC_fix (g : Gr) {cl : List Int} (h : nextC cl g = cl) : ∀ f,itC g f cl = cl
  | 0 => rfl
  | f + 1 => by show itC g f (nextC cl g) = cl; rw [h]; exact itC_fix g h f
theorem rnds_last (g : Gr) : ∀ (f : Nat) (R : List (List Int)) (cl : List Int),∃ R',rnds g f R cl = R' ++ [itC g f cl] ∧ R'.length ≤ R.length + f
  | 0,R,cl => ⟨R,rfl,by omega⟩
  | f + 1,R,cl => by
    by_cases h : nextC cl g = cl
    · exact ⟨R,by rw [itC_fix g h]; simp [rnds,h],by omega⟩
    · obtain ⟨R',h1,h2⟩ := rnds_last g f (R ++ [cl]) (nextC cl g)
      exact ⟨R',by rw [rnds,if_neg h,h1]; rfl,by simp at h2; omega⟩
theorem itC_len (g : Gr) : ∀ (f : Nat) (cl : List Int),cl.length = g.length → (itC g f cl).length = g.length
  | 0,_,h => h
  | f + 1,cl,_ => itC_len g f _ (nextC_len _ _)
def clsG (g : Gr) : List Int := itC g (g.length + 1) (zer g.length)
theorem clsG_len (g : Gr) : (clsG g).length = g.length := itC_len g _ _ (zer_len _)
end Go.Am
end
section
set_option maxRecDepth 10000
set_option maxHeartbeats 1000000
set_option linter.unusedSimpArgs false
set_option linter.unusedVariables false
namespace Go.Am
open Go.Proofs Go.Sort Go.Shelf
def mrL (cl : List Int) (L : List Mv) : List Mv := L.map fun m => (m.1,clAt cl m.2)
def markOf (cl : List Int) (L : List Mv) : List Mv := tidyL (mrL cl L)
theorem mark_eq {cl : List Int} {L M : List Mv} : markOf cl L = markOf cl M ↔ ∀ a c,(∃ m ∈ L,m.1 = a ∧ clAt cl m.2 = c) ↔ (∃ m ∈ M,m.1 = a ∧ clAt cl m.2 = c) := by
  have hm : ∀ (L : List Mv) (a c : Int),(a,c) ∈ mrL cl L ↔ ∃ m ∈ L,m.1 = a ∧ clAt cl m.2 = c := by
    intro L a c
    simp only [mrL,List.mem_map,Prod.mk.injEq]
  constructor
  · intro h a c
    rw [← hm,← hm,← (tidyL_sd (mrL cl L)).2,← (tidyL_sd (mrL cl M)).2]
    unfold markOf at h
    rw [h]
  · intro h
    refine Sd_uniq _ _ (tidyL_sd _).1 (tidyL_sd _).1 fun y => ?_
    show y ∈ tidyL (mrL cl L) ↔ y ∈ tidyL (mrL cl M)
    rw [(tidyL_sd (mrL cl L)).2,(tidyL_sd (mrL cl M)).2]
    obtain ⟨a,c⟩ := y
    rw [hm,hm]
    exact h a c
theorem alk_mark {cl : List Int} {g : Gr} {s t : Nat} : alk cl g s t ↔ cl.getD t 0 = cl.getD s 0 ∧ markOf cl (g.getD s []) = markOf cl (g.getD t []) := by
  rw [alk,mark_eq]
def owKP (n d : Nat) (l : List Mv) : PV := if l = [] then .nils else .own (n,d) l.length
theorem loopMk (E : List PV) (g : Gr) (hE : EncR false E g) (cl : List Int) (hcl : cl.length = g.length) (L1 : Objs) (L : List Mv) (nl : Bool) (hLl : L.length ≤ 1048576) (hto : ∀ m ∈ L,0 ≤ m.2 ∧ m.2 < g.length) : ∀ (rest done : List Mv),L = done ++ rest →
    loopI G [0,6,14,15,16] [9,30] c52l0 ⟨[(0,.sl false 1 (cl.map PV.i)),(6,owKP 4 30 (mrL cl done)),(14,encL nl false L),(15,.i L.length),(16,.i done.length)],owL 30 (mrL cl done),[[(1,.box [.sl false 1 E])],L1,[],[]]⟩ =
      some (.exit 0,⟨[(0,.sl false 1 (cl.map PV.i)),(6,owKP 4 30 (mrL cl L)),(14,encL nl false L),(15,.i L.length),(16,.i L.length),(17,.b false)],owL 30 (mrL cl L),[[(1,.box [.sl false 1 E])],L1,[],[]]⟩)
  | [],done,hd => by
    rw [List.append_nil] at hd
    subst hd
    have hk : ∀ f n,known f n (encL nl false L) = true := fun f n => by simp
    generalize encL nl false L = X at hk ⊢
    rw [loopI_eq]
    rcases L with _ | ⟨y,L⟩
    · simp [r52l0,b52l0,mrL,owKP,owL,hk]
    · simp [r52l0,b52l0,mrL,owKP,owL,hk]
  | m :: rest,done,hd => by
    have hen : encL nl false L = .sl false 2 (L.map mvP) := encL_ne (by rw [hd]; simp)
    have hLl2 : L.length = done.length + (rest.length + 1) := by rw [hd]; simp
    have hlt : (done.length : Int) < L.length := by omega
    have hlt2 : done.length < L.length := by omega
    have hw : IntKind.i64.wrap ((done.length : Int) + 1) = (done.length : Int) + 1 := wr (by omega)
    have hat2 : nth (L.map mvP) done.length = some (mvP m) := by rw [hd]; exact mv_at done m rest
    have hm := hto m (by rw [hd]; simp)
    have hm1 := hm.1
    have hm2 := hm.2
    have hc : nth (cl.map PV.i) m.2.toNat = some (.i (clAt cl m.2)) := int_nth cl m.2.toNat (by omega)
    have hcl2 : (cl.map PV.i).length = g.length := by simp [hcl]
    have hn := loopMk E g hE cl hcl L1 L nl hLl hto rest (done ++ [m]) (by simpa using hd)
    have hmk : mrL cl (done ++ [m]) = mrL cl done ++ [(m.1,clAt cl m.2)] := by simp [mrL]
    have hne : mrL cl done ++ [(m.1,clAt cl m.2)] ≠ [] := by simp
    have hdl : (mrL cl done).length = done.length := by simp [mrL]
    have hdb : done.length ≤ 4294967295 := by omega
    rw [hmk,hen] at hn
    rw [hen]
    simp only [owKP,owL,hne,if_false,List.length_append,List.length_cons,List.length_nil,Int.natCast_add,show ((0 + 1 : Nat) : Int) = 1 from rfl,List.map_append,List.map_cons,List.map_nil,hdl] at hn
    have hml : (L.map mvP).length = L.length := by simp
    have hdm : ((mrL cl done).map mvP).length = done.length := by simp [mrL]
    generalize hM : L.map mvP = M at hat2 hml hn ⊢
    generalize hC : cl.map PV.i = C at hc hcl2 hn ⊢
    simp only [mvP] at hat2 hn
    rw [loopI_eq]
    by_cases hd0 : done = []
    · subst hd0
      simp [mrL] at hn
      simp only [List.length_nil,show ((0 : Nat) : Int) = 0 from rfl] at hat2 hlt hlt2
      simp [r52l0,b52l0,owKP,owL,mrL,hlt,hlt2,hat2,hml,hm1,hm2,hc,hcl2,unAgg,wr1]
      exact hn
    · have hmn : ¬ mrL cl done = [] := by simp [mrL,hd0]
      simp only [owKP,owL,hmn,if_false,hdl]
      generalize hD : (mrL cl done).map mvP = D at hdm hn ⊢
      simp [r52l0,b52l0,hlt,hlt2,hat2,hml,hm1,hm2,hc,hcl2,unAgg,hw,hdm,hdb]
      exact hn
theorem eqMark (E : List PV) (g : Gr) (hE : EncR false E g) (cl : List Int) (hcl : cl.length = g.length) (hsm : SmallG g) (hok : OkTo g) (s : Nat) (hs : s < g.length) (L1 : Objs) :
    callI G 52 [.sl false 1 (cl.map PV.i),.i s,.ref (0,1) 1 0 0] [[(1,.box [.sl false 1 E])],L1,[],[]] = some (encL true true (markOf cl (g.getD s [])),[[(1,.box [.sl false 1 E])],L1,[],[]]) := by
  have hEl := hE.1
  obtain ⟨nl,hat⟩ := hE.2 s hs
  have hsi : (s : Int) < g.length := by omega
  have hLl : (g.getD s []).length ≤ 1048576 := hsm.2 _ (by rw [List.getD_eq_getElem?_getD,List.getElem?_eq_getElem hs,Option.getD_some]; exact List.getElem_mem hs)
  have hl := loopMk E g hE cl hcl L1 (g.getD s []) nl hLl (hok.row s) (g.getD s []) [] rfl
  simp only [List.length_nil,show ((0 : Nat) : Int) = 0 from rfl,show mrL cl [] = [] from rfl,show owKP 4 30 [] = .nils from rfl,owL_n] at hl
  generalize g.getD s [] = L at hat hLl hl ⊢
  have hml : (mrL cl L).length = L.length := by simp [mrL]
  rw [callI_eq]
  by_cases hL : L = []
  · subst hL
    have ht := eqTidyN []
    have hmo : markOf cl [] = [] := by simp [markOf,mrL,tidyL,srtM,dd]
    rw [hmo]
    simp only [show mrL cl [] = [] from rfl,show owKP 4 30 [] = .nils from rfl,owL_n] at hl
    rcases encL_two nl false [] with ⟨e,e2⟩ | e
    · rw [e] at hat hl
      simp at hl
      simp [body1_eq _ _ (gp 52) g52,c52,a52,hEl,hs,hsi,hat,hl,ht]
    · rw [e] at hat hl
      simp at hat hl
      simp [body1_eq _ _ (gp 52) g52,c52,a52,hEl,hs,hsi,hat,hl,ht]
  · have hd : mrL cl L ≠ [] := by simp [mrL,hL]
    have ht := eqTidy (4,30) (mrL cl L) [[(1,.box [.sl false 1 E])],L1,[],[],[(30,.row 2 ((mrL cl L).map mvP))]] (by simp) rfl (by omega)
    have hmo : markOf cl L ≠ [] := by
      intro e
      obtain ⟨y,hy⟩ := List.exists_mem_of_ne_nil _ hd
      have := ((tidyL_sd (mrL cl L)).2 y).2 hy
      unfold markOf at e
      rw [e] at this; cases this
    have he : encL true true (markOf cl L) = .sl true 2 ((markOf cl L).map mvP) := encL_ne hmo
    have hen : encL nl false L = .sl false 2 (L.map mvP) := encL_ne hL
    have hMl : (L.map mvP).length = L.length := by simp
    rw [he]
    rw [hen] at hat hl
    simp only [owKP,owL,hd,if_false,hml] at hl
    rw [hml] at ht
    generalize L.map mvP = M at hat hl hMl
    rcases ht with ⟨hq,ht⟩ | ht
    · have hml2 : (markOf cl L).length = L.length := by unfold markOf; rw [hq]; simp [srtM,hml]
      have hml3 : ((markOf cl L).map mvP).length = L.length := by simp [hml2]
      have hqq : tidyL (mrL cl L) = markOf cl L := rfl
      rw [hqq] at ht
      generalize (markOf cl L).map mvP = Q at ht hml3 ⊢
      generalize (mrL cl L).map mvP = D at ht hl
      simp [body1_eq _ _ (gp 52) g52,c52,a52,hEl,hs,hsi,hat,hMl,hl,ht,setS,hml3]
    · have hqq : tidyL (mrL cl L) = markOf cl L := rfl
      rw [hqq] at ht
      generalize (markOf cl L).map mvP = Q at ht ⊢
      generalize (mrL cl L).map mvP = D at ht hl
      simp [body1_eq _ _ (gp 52) g52,c52,a52,hEl,hs,hsi,hat,hMl,hl,ht,setS]
theorem eqMk1 (E : List PV) (g : Gr) (hE : EncR false E g) (cl : List Int) (hcl : cl.length = g.length) (hsm : SmallG g) (hok : OkTo g) (s : Nat) (hs : s < g.length) (R : OB) :
    callI G 66 [.i s,.ref (1,3) 1 0 0,.ref (1,6) 1 0 0] [[(1,.box [.sl false 1 E])],[(3,.box [.clo 52 [.ref (0,1) 1 0 0]]),(6,.box [.sl false 1 (cl.map PV.i)]),(10,R)],[]] =
      some (encL true true (markOf cl (g.getD s [])),[[(1,.box [.sl false 1 E])],[(3,.box [.clo 52 [.ref (0,1) 1 0 0]]),(6,.box [.sl false 1 (cl.map PV.i)]),(10,R)],[]]) := by
  have hm := eqMark E g hE cl hcl hsm hok s hs [(3,.box [.clo 52 [.ref (0,1) 1 0 0]]),(6,.box [.sl false 1 (cl.map PV.i)]),(10,R)]
  generalize markOf cl (g.getD s []) = Q at hm ⊢
  generalize cl.map PV.i = C at hm ⊢
  rw [callI_eq]
  rcases encL_two true true Q with ⟨e,e2⟩ | e
  · rw [e] at hm ⊢
    simp [body1_eq _ _ (gp 66) g66,c66,a66,hm]
  · rw [e] at hm ⊢
    simp [body1_eq _ _ (gp 66) g66,c66,a66,hm]
end Go.Am
end
