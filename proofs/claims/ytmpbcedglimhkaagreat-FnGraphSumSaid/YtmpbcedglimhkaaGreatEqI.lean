/- What the functions that the law reaches compute. -/
import Derived.Test.YtmpbcedglimhkaaGreatEqH
import Derived.Test.YtmpbcedglimhkaaGreatEqA
import Derived.Test.YtmpbcedglimhkaaGreatEqF
section
set_option maxRecDepth 10000
set_option maxHeartbeats 4000000
set_option linter.unusedSimpArgs false
set_option linter.unusedVariables false
namespace Go.Am
open Go.Proofs Go.Sort Go.Shelf
theorem weaks_mapI : ∀ l : List Int,weaks 2 (l.map PV.i) = l.map PV.i
  | [] => rfl
  | x :: l => by
    have := weaks_mapI l
    simp only [List.map_cons,weaks] at this ⊢
    rw [this]; rfl
theorem wkG_ints (l : List Int) : wkG (.sl false 1 (l.map PV.i)) = .sl false 1 (l.map PV.i) := by
  show weak 2 (.sl false 1 (l.map PV.i)) = _
  simp only [weak,weaks_mapI]
theorem wkG_i (a : Int) : wkG (.i a) = .i a := rfl
theorem encGf (g : Gr) : encG false false g = .agg [.sl false 1 (encGs false false g)] := by simp [encG,encM']
theorem hGraphOk (g : Gr) (hf : FitG g) : callI H 12 [encG true false g] [] = some (.b (grOk g),[]) := by
  rw [callI_prim' (p := viaP G 12 wkG) rfl]
  simp only [viaP,List.map_cons,List.map_nil,wkG_enc]
  exact eqOkI g hf
theorem hSlip (g : Gr) (hg : OkTo g) (hs : SmallG g) (L : List Int) (hL : ∀ x ∈ L,0 ≤ x ∧ x < g.length) (hl : L.length ≤ 2147483648) :
    callI H 53 [encG true false g,.sl false 1 (L.map PV.i)] [] = some (.sl false 1 ((slip g L).map PV.i),[]) := by
  rw [callI_prim' (p := lowP G 53 wkG) rfl]
  have h := eqSlip (encGs false false g) g (encR_G false false g) hg hs L hL hl
  simp only [lowP,viaP,List.map_cons,List.map_nil,wkG_enc,wkG_ints,encGf]
  rw [h]
  simp only [lowR,fals_i]
theorem hAfter (g : Gr) (hg : OkTo g) (hs : SmallG g) (h60 : g.length ≤ 1000) (S : List Int) (hS : InN g.length S) (a : Int) :
    callI H 54 [encG true false g,.sl false 1 (S.map PV.i),.i a] [] = some (.sl false 1 ((aft g S a).map PV.i),[]) := by
  rw [callI_prim' (p := lowP G 54 wkG) rfl]
  have h := eqAfter (encGs false false g) g (encR_G false false g) hg hs h60 S hS a
  simp only [lowP,viaP,List.map_cons,List.map_nil,wkG_enc,wkG_ints,wkG_i,encGf]
  rw [h]
  simp only [lowR,fals_i]
theorem loopBe (g : Gr) (hg : OkTo g) (hs : SmallG g) (h60 : g.length ≤ 1000) : ∀ (rest done S : List Int),InN g.length S → (done ++ rest).length ≤ 1000 →
    loopI H [2,5,11,12,13] [2,9,10,20] c38l0 ⟨[(2,.ref (0,2) 1 0 0),(5,.sl false 1 (S.map PV.i)),(11,.sl false 1 ((done ++ rest).map PV.i)),(12,.i (done ++ rest).length),(13,.i done.length)],[(2,.box [encM' true false g]),(9,.frz 1 [.i 0])],[]⟩ =
      some (.exit 0,⟨[(2,.ref (0,2) 1 0 0),(5,.sl false 1 ((behind g S rest).map PV.i)),(11,.sl false 1 ((done ++ rest).map PV.i)),(12,.i (done ++ rest).length),(13,.i (done ++ rest).length),(14,.b false)],[(2,.box [encM' true false g]),(9,.frz 1 [.i 0])],[]⟩)
  | [],done,S,hS,h => by
    rw [loopI_eq]
    rcases encM_two true false g with ⟨e,_⟩ | e <;>
      (rw [e]
       simp [r38l0,b38l0,behind])
  | a :: rest,done,S,hS,h => by
    have hlt : (done.length : Int) < (done.length : Int) + ((rest.length : Int) + 1) := by omega
    have hw : IntKind.i64.wrap ((done.length : Int) + 1) = (done.length : Int) + 1 := wr (by simp at h; omega)
    have hat : nth ((done ++ a :: rest).map PV.i) done.length = some (.i a) := by simp [nth]
    have hn := loopBe g hg hs h60 rest (done ++ [a]) (aft g S a) (aft_in hg S a) (by simpa using h)
    have hA := hAfter g hg hs h60 S hS a
    have e1 : done ++ [a] ++ rest = done ++ a :: rest := by simp
    have e2 : (done ++ a :: rest).length = done.length + (rest.length + 1) := by simp
    have e3 : ((done ++ a :: rest).map PV.i).length = done.length + (rest.length + 1) := by simp
    simp only [e1,e2] at hn ⊢
    have hB : behind g S (a :: rest) = behind g (aft g S a) rest := rfl
    rw [hB]
    simp only [encG] at hA
    generalize (done ++ a :: rest).map PV.i = F at hat hn e3 ⊢
    generalize (aft g S a).map PV.i = T at hA hn ⊢
    generalize S.map PV.i = SS at hA hn ⊢
    rw [loopI_eq]
    rcases encM_two true false g with ⟨e,_⟩ | e <;>
      (rw [e] at hA hn ⊢
       simp [r38l0,b38l0,hlt,hat,e3,hw,hA]
       simpa [Int.add_assoc] using hn)
theorem eqBehind (g : Gr) (hg : OkTo g) (hs : SmallG g) (h0 : 1 ≤ g.length) (h60 : g.length ≤ 1000) (w : List Int) (hw : w.length ≤ 1000) :
    callI H 38 [encG true false g,.sl false 1 (w.map PV.i)] [] = some (.sl false 1 ((behind g (slip g [0]) w).map PV.i),[]) := by
  have h1 : ∀ x ∈ [(0 : Int)],0 ≤ x ∧ x < g.length := fun x hx => by rw [List.mem_singleton.1 hx]; omega
  have hS := hSlip g hg hs [0] h1 (by simp)
  have hl := loopBe g hg hs h60 w [] (slip g [0]) (slip_in hg h1) (by simpa using hw)
  simp only [List.nil_append,List.length_nil,show ((0 : Nat) : Int) = 0 from rfl,List.map_cons,List.map_nil] at hl hS
  simp only [encG] at hS ⊢
  have hW : (w.map PV.i).length = w.length := by simp
  generalize (behind g (slip g [0]) w).map PV.i = T at hl ⊢
  generalize (slip g [0]).map PV.i = SS at hS hl
  generalize w.map PV.i = W at hl hW ⊢
  rw [callI_eq]
  rcases encM_two true false g with ⟨e,_⟩ | e <;>
    (rw [e] at hS hl ⊢
     simp [body1_eq _ _ (gpH 38) g38,c38,a38,hS,hW,hl])
theorem hActOk (a : Int) : callI H 28 [.i a] [] = some (.b (actOk a),[]) := by
  rw [callI_eq]
  unfold actOk
  by_cases h : -4 ≤ a <;> simp [body1_eq _ _ (gpH 28) g28,c28,a28,h]
theorem hSeen (a : Int) : callI H 78 [.i a] [] = some (.b (seenA a),[]) := by
  have h := hActOk a
  rw [callI_eq]
  unfold seenA
  by_cases h1 : actOk a = true <;> simp [body1_eq _ _ (gpH 78) g78,c78,a78,h,h1]
theorem hUnseen (a : Int) : callI H 77 [.i a] [] = some (.b (!seenA a),[]) := by
  have h := hSeen a
  rw [callI_eq]
  simp [body1_eq _ _ (gpH 77) g77,c77,a77,h]
def idxU : List Int → Nat → Int
  | [],_ => -1
  | a :: w,k => if seenA a then idxU w (k + 1) else k
theorem idxU_all : ∀ (w : List Int) (k : Nat),(0 ≤ idxU w k) ↔ w.all seenA = false
  | [],k => by simp [idxU]
  | a :: w,k => by
    have ih := idxU_all w (k + 1)
    by_cases h : seenA a = true
    · simp [idxU,h,ih]
    · simp [idxU,h]
theorem loopIxW : ∀ (rest done : List Int),(done ++ rest).length ≤ 1000 → ∃ ex,loopI H [0,1,7,8] [] c95l0 ⟨[(0,.sl false 1 ((done ++ rest).map PV.i)),(1,.clo 77 []),(7,.i (done ++ rest).length),(8,.i done.length)],[],[]⟩ = some ex ∧
    ((idxU rest done.length = -1 ∧ ex = (.exit 0,⟨[(0,.sl false 1 ((done ++ rest).map PV.i)),(1,.clo 77 []),(7,.i (done ++ rest).length),(8,.i (done ++ rest).length),(9,.b false)],[],[]⟩)) ∨
     (∃ k : Nat,idxU rest done.length = k ∧ ex.1 = .ret ∧ ex.2.l = [] ∧ ex.2.o = [] ∧ getR ex.2.r 4 = .i k))
  | [],done,h => by
    refine ⟨_, ?_,.inl ⟨rfl,rfl⟩⟩
    rw [loopI_eq]
    simp [r95l0,b95l0]
  | a :: rest,done,h => by
    have hlt : (done.length : Int) < (done.length : Int) + ((rest.length : Int) + 1) := by omega
    have hw : IntKind.i64.wrap ((done.length : Int) + 1) = (done.length : Int) + 1 := wr (by simp at h; omega)
    have hat : nth ((done ++ a :: rest).map PV.i) done.length = some (.i a) := by simp [nth]
    obtain ⟨ex,hn,hx⟩ := loopIxW rest (done ++ [a]) (by simpa using h)
    have hU := hUnseen a
    have e1 : done ++ [a] ++ rest = done ++ a :: rest := by simp
    have e2 : (done ++ a :: rest).length = done.length + (rest.length + 1) := by simp
    have e3 : ((done ++ a :: rest).map PV.i).length = done.length + (rest.length + 1) := by simp
    have e4 : (done ++ [a]).length = done.length + 1 := by simp
    simp only [e1,e2,e4] at hn hx ⊢
    generalize (done ++ a :: rest).map PV.i = F at hat hn hx e3 ⊢
    by_cases hs : seenA a = true
    · refine ⟨ex, ?_, ?_⟩
      · rw [loopI_eq]
        simp [r95l0,b95l0,hlt,hat,e3,hw,hU,hs]
        simpa [Int.add_assoc] using hn
      · simpa [idxU,hs] using hx
    · refine ⟨(.ret,⟨[(4,.i done.length)],[],[]⟩), ?_,.inr ⟨done.length,by simp [idxU,hs],rfl,rfl,rfl,rfl⟩⟩
      rw [loopI_eq]
      simp [r95l0,b95l0,hlt,hat,e3,hw,hU,hs]
theorem hIdx (w : List Int) (hw : w.length ≤ 1000) : callI H 95 [.sl false 1 (w.map PV.i),.clo 77 []] [] = some (.i (idxU w 0),[]) := by
  obtain ⟨ex,hl,hx⟩ := loopIxW w [] (by simpa using hw)
  simp only [List.nil_append,List.length_nil,show ((0 : Nat) : Int) = 0 from rfl] at hl hx
  have hW : (w.map PV.i).length = w.length := by simp
  generalize w.map PV.i = W at hl hx hW ⊢
  rw [callI_eq]
  rcases hx with ⟨e,rfl⟩ | ⟨k,e,h1,h2,h3,h4⟩
  · rw [e]
    simp [body1_eq _ _ (gpH 95) g95,c95,a95,hW,hl]
  · rw [e]
    obtain ⟨x1,r,l,o⟩ := ex
    simp only at h1 h2 h3 h4
    subst h1 h2 h3
    simp [body1_eq _ _ (gpH 95) g95,c95,a95,hW,hl,h4]
theorem hContains (w : List Int) (hw : w.length ≤ 1000) : callI H 76 [.sl false 1 (w.map PV.i),.clo 77 []] [] = some (.b (!w.all seenA),[]) := by
  have h := hIdx w hw
  have hi := idxU_all w 0
  generalize w.map PV.i = W at h ⊢
  rw [callI_eq]
  by_cases c : 0 ≤ idxU w 0
  · have : w.all seenA = false := hi.1 c
    simp [body1_eq _ _ (gpH 76) g76,c76,a76,h,c,this]
  · have : w.all seenA = true := by
      cases h0 : w.all seenA
      · exact absurd (hi.2 h0) c
      · rfl
    simp [body1_eq _ _ (gpH 76) g76,c76,a76,h,c,this]
theorem hActsSeen (w : List Int) (hw : w.length ≤ 1000) : callI H 52 [.sl false 1 (w.map PV.i)] [] = some (.b (w.all seenA),[]) := by
  have h := hContains w hw
  generalize w.map PV.i = W at h ⊢
  generalize w.all seenA = s at h ⊢
  rw [callI_eq]
  simp [body1_eq _ _ (gpH 52) g52,c52,a52,h]
theorem hWordOk (w : List Int) (hw : w.length ≤ 1000) : callI H 37 [.sl false 1 (w.map PV.i)] [] = some (.b (wordOk w),[]) := by
  have h := hActsSeen w hw
  have hW : (w.map PV.i).length = w.length := by simp
  unfold wordOk
  generalize w.map PV.i = W at h hW ⊢
  generalize w.all seenA = s at h ⊢
  rw [callI_eq]
  by_cases c : (w.length : Int) ≤ 20
  · have c' : w.length ≤ 20 := by omega
    simp [body1_eq _ _ (gpH 37) g37,c37,a37,h,hW,c,c']
  · have c' : ¬ w.length ≤ 20 := by omega
    simp [body1_eq _ _ (gpH 37) g37,c37,a37,h,hW,c,c']
def behV (g : Gr) (w : List Int) : PV := if (grOk g && wordOk w) = true then .sl false 1 ((behind g (slip g [0]) w).map PV.i) else .nils
theorem hTraceBehind (g : Gr) (hs : SmallG g) (hf : FitG g) (w : List Int) (hw : w.length ≤ 1000) : callI H 20 [encG true false g,.sl false 1 (w.map PV.i)] [] = some (behV g w,[]) := by
  have h1 := hGraphOk g hf
  have h2 := hWordOk w hw
  unfold behV
  cases c1 : grOk g with
  | false =>
    rw [c1] at h1
    simp only [encG] at h1 ⊢
    generalize w.map PV.i = W at h2 ⊢
    rw [callI_eq]
    rcases encM_two true false g with ⟨e,_⟩ | e <;>
      (rw [e] at h1 ⊢
       simp [body1_eq _ _ (gpH 20) g20,c20,a20,h1,h2])
  | true =>
    rw [c1] at h1
    obtain ⟨p1,p2,p3⟩ := grOk_to c1
    have h3 := eqBehind g p1 hs p2 (by omega) w hw
    simp only [encG] at h1 h3 ⊢
    generalize (behind g (slip g [0]) w).map PV.i = T at h3 ⊢
    generalize w.map PV.i = W at h2 h3 ⊢
    generalize wordOk w = k at h2 ⊢
    rw [callI_eq]
    rcases encM_two true false g with ⟨e,_⟩ | e <;> cases k <;>
      (rw [e] at h1 h3 ⊢
       simp [body1_eq _ _ (gpH 20) g20,c20,a20,h1,h2,h3])
theorem hTraceDoes (g : Gr) (hs : SmallG g) (hf : FitG g) (w : List Int) (hw : w.length ≤ 1000) : callI H 8 [encG true false g,.sl false 1 (w.map PV.i)] [] = some (.b (traceB g w),[]) := by
  have h := hTraceBehind g hs hf w hw
  unfold behV at h
  unfold traceB
  simp only [encG] at h ⊢
  generalize hb : behind g (slip g [0]) w = b at h ⊢
  have hW : (b.map PV.i).length = b.length := by simp
  generalize w.map PV.i = W at h ⊢
  generalize b.map PV.i = B at h hW
  rw [callI_eq]
  cases c1 : grOk g with
  | false =>
    simp only [c1,Bool.false_and,Bool.false_eq_true,if_false] at h
    rcases encM_two true false g with ⟨e,_⟩ | e <;>
      (rw [e] at h ⊢
       simp [body1_eq _ _ (gpH 8) g8,c8,a8,h])
  | true =>
    cases c2 : wordOk w with
    | false =>
      simp only [c1,c2,Bool.and_false,Bool.false_eq_true,if_false] at h
      rcases encM_two true false g with ⟨e,_⟩ | e <;>
        (rw [e] at h ⊢
         simp [body1_eq _ _ (gpH 8) g8,c8,a8,h])
    | true =>
      simp only [c1,c2,Bool.and_true,if_true] at h
      cases b with
      | nil =>
        rcases encM_two true false g with ⟨e,_⟩ | e <;>
          (rw [e] at h ⊢
           simp [body1_eq _ _ (gpH 8) g8,c8,a8,h,hW])
      | cons x b =>
        have hp : (0 : Int) < (b.length : Int) + 1 := by omega
        rcases encM_two true false g with ⟨e,_⟩ | e <;>
          (rw [e] at h ⊢
           simp [body1_eq _ _ (gpH 8) g8,c8,a8,h,hW,hp])
end Go.Am
end
section
set_option maxRecDepth 10000
set_option maxHeartbeats 16000000
set_option linter.unusedSimpArgs false
set_option linter.unusedVariables false
namespace Go.Am
open Go.Proofs Go.Sort Go.Shelf
theorem nDrawSum (B : List Nat) (hB : B.length ≤ 9223372036854775807) (hb : ∀ b ∈ B,b < 256) : ∃ g h,SmallG g ∧ SmallG h ∧ callI W 4 [.sl false 1 (byVs B)] [] = some (.tup [encG true false g,encG true false h],[]) := by
  obtain ⟨B',h1,h2,h3⟩ := nOpen B hB
  have hr : RdrOK B' 0 := ⟨h1,fun b hb' => hb b (h2 b hb'),by omega,by omega⟩
  obtain ⟨g,h,q,e1,e2,sg,sh,e3⟩ := eqTwins [[(2,.box [.nils]),(3,.box [.nils]),(8,rd B' 0)]] (0,8) (by simp) B' 0 hr (by omega)
  have es : ∀ q,setS [[(2,.box [.nils]),(3,.box [.nils]),(8,rd B' 0)]] (0,8) (rd B' q) = [[(2,.box [.nils]),(3,.box [.nils]),(8,rd B' q)]] := fun _ => rfl
  rw [es,es] at e3
  refine ⟨g,h,sg,sh, ?_⟩
  have hN : callI N 4 [.sl false 1 (byVs B)] [] = some (.tup [encG true false g,encG true false h],[]) := by
    simp only [rd,encG] at e3 ⊢
    rw [callI_eq]
    simp [body1_eq _ _ (gpN 4) g4,c4,a4,h3,e3]
  rw [callI_prim' (p := lowTP N 4 id) rfl]
  simp only [lowTP,viaP,List.map_id_fun,id,hN]
  have ht : ∀ q : Gr,tree (encG true false q) = true ∧ fal (encG true false q) = encG true false q := by
    intro q
    have := tree_encG q
    refine ⟨?_,by simp only [encG,fal,fals,fal_encM]⟩
    have h := fal_encG q
    rw [← h]
    rw [tree_fal]; exact this
  simp only [lowTR,trees,(ht g).1,(ht h).1,Bool.and_self,if_true,fals,(ht g).2,(ht h).2]
theorem wSumI (g h : Gr) (sg : SmallG g) (sh : SmallG h) : callI W 5 [encG true false g,encG true false h] [] = some (.tup [encG true false (graphSum g h).1,.b (graphSum g h).2],[]) := by
  rw [callI_prim' (p := lowTP G 5 wkG) rfl]
  simp only [lowTP,viaP,List.map_cons,List.map_nil,wkG_enc]
  have e := eqGraphSumI g h sg sh sg.fit sh.fit
  simp only [encG,encM_f] at e ⊢
  rw [e]
  exact low_gb _ _
theorem wSumS (g h : Gr) (sg : SmallG g) (sh : SmallG h) : callI W 6 [encG true false g,encG true false h] [] = some (.tup [encG true false (graphSum g h).1,.b (graphSum g h).2],[]) := by
  rw [callI_prim' (p := lowTP G 6 wkG) rfl]
  simp only [lowTP,viaP,List.map_cons,List.map_nil,wkG_enc]
  have e := eqGraphSumS g h sg sh sg.fit sh.fit
  simp only [encG,encM_f] at e ⊢
  rw [e]
  exact low_gb _ _
theorem wTraceDoes (g : Gr) (sg : SmallG g) (w : List Int) (hw : w.length ≤ 1000) : callI W 8 [encG true false g,.sl false 1 (w.map PV.i)] [] = some (.b (traceB g w),[]) := by
  rw [callI_prim' (p := viaP H 8 id) rfl]
  simp only [viaP,List.map_cons,List.map_nil,id]
  exact hTraceDoes g sg sg.fit w hw
theorem wMnFirst (g h : Gr) (sg : SmallG g) (sh : SmallG h) : callI W 9 [encG true false g,encG true false h] [] = some (.b (firstB g h),[]) := by
  rw [callI_prim' (p := viaP H 9 id) rfl]
  simp only [viaP,List.map_cons,List.map_nil,id]
  exact eqMnFirst g h sg sh sg.fit sh.fit
theorem wMnGraph (q : Gr) (hs : SmallG q) : callI W 7 [encG true false q,encG true false q] [] = some (.b true,[]) := by
  have := hMnGraph q hs
  rw [callI_prim' (p := viaP G 7 wkG) rfl] at this ⊢
  exact this
theorem loopSu0 (g h x : Gr) (sg : SmallG g) (sh : SmallG h) (sx : SmallG x) (a : Int) (ht : ∀ b,-4 ≤ b → b ≤ 4 → a ≠ 0 → b ≠ 0 → traceB x [a,b] = (traceB g [a,b] || traceB h [a,b])) : ∀ (k : Nat) (b : Int),-4 ≤ b → b + k = 5 →
    loopI W [3,4,5,9,10] [3,4,5,19,25,1019] c3l0 ⟨[(3,.ref (0,3) 1 0 0),(4,.ref (0,4) 1 0 0),(5,.ref (0,5) 1 0 0),(9,.i a),(10,.i b)],[(3,.box [encM' true false g]),(4,.box [encM' true false h]),(5,.box [encM' true false x])],[]⟩ =
      some (.exit 2,⟨[(3,.ref (0,3) 1 0 0),(4,.ref (0,4) 1 0 0),(5,.ref (0,5) 1 0 0),(9,.i a),(10,.i 5),(50,.b false)],[(3,.box [encM' true false g]),(4,.box [encM' true false h]),(5,.box [encM' true false x])],[]⟩)
  | 0,b,hb,e => by
    obtain rfl : b = 5 := by omega
    rw [loopI_eq]
    simp [r3l0,b3l0]
  | k + 1,b,hb,e => by
    have hle : b ≤ 4 := by omega
    have hw : IntKind.i64.wrap (b + 1) = b + 1 := wr (by omega)
    have hn := loopSu0 g h x sg sh sx a ht k (b + 1) (by omega) (by omega)
    refine Eq.trans ?_ hn
    have t1 := wTraceDoes x sx [a,b] (by simp)
    have t2 := wTraceDoes g sg [a,b] (by simp)
    have t3 := wTraceDoes h sh [a,b] (by simp)
    have hq := ht b hb hle
    clear hn ht
    generalize traceB x [a,b] = q1 at *
    generalize traceB g [a,b] = q2 at *
    generalize traceB h [a,b] = q3 at *
    simp only [List.map_cons,List.map_nil,encG] at t1 t2 t3
    rw [loopI_eq]
    by_cases h0 : a = 0
    · simp [r3l0,b3l0,hle,hw,h0]
    · by_cases hb0 : b = 0
      · simp [r3l0,b3l0,hle,hw,h0,hb0,wr1]
      · have hq := hq h0 hb0
        subst hq
        cases q2 <;> cases q3 <;> simp only [Bool.or_self,Bool.or_true,Bool.true_or,Bool.or_false] at t1 <;> simp [r3l0,b3l0,hle,hw,h0,hb0,t1,t2,t3]
theorem loopSu1 (g h x : Gr) (sg : SmallG g) (sh : SmallG h) (sx : SmallG x) (ht : ∀ a b,-4 ≤ a → a ≤ 4 → -4 ≤ b → b ≤ 4 → a ≠ 0 → b ≠ 0 → traceB x [a,b] = (traceB g [a,b] || traceB h [a,b])) : ∀ (k : Nat) (a : Int),-4 ≤ a → a + k = 5 →
    loopI W [3,4,5,9] [3,4,5,19,25,1019] c3l1 ⟨[(3,.ref (0,3) 1 0 0),(4,.ref (0,4) 1 0 0),(5,.ref (0,5) 1 0 0),(9,.i a)],[(3,.box [encM' true false g]),(4,.box [encM' true false h]),(5,.box [encM' true false x])],[]⟩ =
      some (.exit 0,⟨[(3,.ref (0,3) 1 0 0),(4,.ref (0,4) 1 0 0),(5,.ref (0,5) 1 0 0),(9,.i 5),(46,.b false)],[(3,.box [encM' true false g]),(4,.box [encM' true false h]),(5,.box [encM' true false x])],[]⟩)
  | 0,a,ha,e => by
    obtain rfl : a = 5 := by omega
    rw [loopI_eq]
    simp [r3l1,b3l1]
  | k + 1,a,ha,e => by
    have hle : a ≤ 4 := by omega
    have hw : IntKind.i64.wrap (a + 1) = a + 1 := wr (by omega)
    have hn := loopSu1 g h x sg sh sx ht k (a + 1) (by omega) (by omega)
    refine Eq.trans ?_ hn
    have h0 := loopSu0 g h x sg sh sx a (fun b h1 h2 h3 h4 => ht a b ha hle h1 h2 h3 h4) 9 (-4) (by omega) (by omega)
    rw [loopI_eq]
    simp [r3l1,b3l1,hle,hw,h0]
theorem lawFnGraphSum (B : List Nat) (hB : B.length ≤ 9223372036854775807) (hb : ∀ b ∈ B,b < 256) : callI W 3 [.sl false 1 (byVs B)] [] = some (.b true,[]) := by
  have hBl := byVs_len B
  by_cases hbig : (1048576 : Int) < B.length
  · rw [callI_eq]
    simp [body1_eq _ _ (gpW 3) g3,c3,a3,hBl,hbig]
  obtain ⟨g,h,sg,sh,hd⟩ := nDrawSum B hB hb
  have hI := wSumI g h sg sh
  have hS := wSumS g h sg sh
  have hT := wSumI h g sh sg
  have sx := sum_smallR sg sh
  have sy := sum_smallR sh sg
  have hM := wMnGraph _ sx
  have hF := wMnFirst _ _ sx sy
  have hl := fun ht => loopSu1 g h _ sg sh sx ht 9 (-4) (by omega) (by omega)
  have hmd := fun e : graphSum g h = ((graphSum g h).1,true) => sum_made e
  have hbk := fun e : graphSum g h = ((graphSum g h).1,true) => sum_back e
  generalize graphSum g h = X at *
  generalize graphSum h g = Y at *
  obtain ⟨x,bx⟩ := X
  obtain ⟨y,bY⟩ := Y
  dsimp only at *
  simp only [encG] at hd hI hS hT hM hF
  cases bx with
  | false =>
    rw [callI_eq]
    simp [body1_eq _ _ (gpW 3) g3,c3,a3,hBl,hbig,hd,hI,hS,hM]
  | true =>
    obtain ⟨m1,m2⟩ := hmd rfl
    obtain rfl := hbk rfl
    have hl := hl (fun a b h1 h2 h3 h4 h5 h6 => m1 a b (by simp [seenA,actOk,h1,h2,h5]) (by simp [seenA,actOk,h3,h4,h6]))
    rw [m2 y rfl] at hF
    rw [callI_eq]
    simp [body1_eq _ _ (gpW 3) g3,c3,a3,hBl,hbig,hd,hI,hS,hT,hM,hF,hl]
end Go.Am
end
