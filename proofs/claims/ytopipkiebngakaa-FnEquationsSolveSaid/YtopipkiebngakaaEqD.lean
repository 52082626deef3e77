/- What the functions that the law reaches compute. -/
import Derived.Test.YtopipkiebngakaaEqC
import Derived.Test.YtopipkiebngakaaEqB
section
set_option maxRecDepth 10000
set_option maxHeartbeats 16000000
set_option linter.unusedSimpArgs false
set_option linter.unusedVariables false
namespace Go.Am
open Go.Proofs Go.Sort Go.Shelf
def cellsT : Tm → List PV | .mk o n ps => [.i o,.i n,encQ false ps]
theorem encT_cells (t : Tm) : encT false t = .agg (cellsT t) := by cases t; simp [encT,cellsT]
mutual
theorem falF_encT : ∀ p : Tm,fal (encT false p) = encT false p
  | .mk o x ps => by
    simp only [encT,fal,fals]
    rw [falF_encQ ps]
theorem falF_encQ : ∀ ps : List Tm,fal (encQ false ps) = encQ false ps
  | [] => by simp [encQ,fal]
  | p :: ps => by
    simp only [encQ,fal,fals]
    rw [falF_encT p,falsF_encTs ps]
theorem falsF_encTs : ∀ ps : List Tm,fals (encTs false ps) = encTs false ps
  | [] => by simp [encTs,fals]
  | p :: ps => by
    simp only [encTs,fals]
    rw [falF_encT p,falsF_encTs ps]
end
theorem cellsT_form (t : Tm) : ∃ (a b : Int) (c : PV) (L : List PV),cellsT t = [.i a,.i b,c] ∧ fals L = L ∧ (c = .nils ∨ c = .sl false 3 L) := by
  obtain ⟨a,b,ps⟩ := t
  cases ps with
  | nil => exact ⟨a,b,_,[],rfl,rfl,.inl (by simp [encQ])⟩
  | cons p ps => exact ⟨a,b,_,_,rfl,falsF_encTs _,.inr (encQ_c false (List.cons_ne_nil p ps))⟩
theorem encT_formF (t : Tm) : ∃ (a b : Int) (c : PV) (L : List PV),encT false t = .agg [.i a,.i b,c] ∧ fals L = L ∧ (c = .nils ∨ c = .sl false 3 L) := by
  obtain ⟨a,b,c,L,h,hc⟩ := cellsT_form t
  exact ⟨a,b,c,L,by rw [encT_cells,h],hc⟩
def stP (s : Stp) : PV := .agg (.i s.1 :: cellsT s.2)
def stPs (l : List Stp) : List PV := l.map stP
@[simp] theorem stPs_len (l : List Stp) : (stPs l).length = l.length := by simp [stPs]
theorem stPs_app (a b : List Stp) : stPs (a ++ b) = stPs a ++ stPs b := by simp [stPs]
theorem stP_at (done : List Stp) (x : Stp) (rest : List Stp) : nth (stPs (done ++ x :: rest)) done.length = some (stP x) := by simp [nth,stPs]
theorem stP_form (s : Stp) : ∃ (a b : Int) (c : PV) (L : List PV),stP s = .agg [.i s.1,.i a,.i b,c] ∧ encT false s.2 = .agg [.i a,.i b,c] ∧ fals L = L ∧ (c = .nils ∨ c = .sl false 3 L) := by
  obtain ⟨a,b,c,L,h,hc⟩ := cellsT_form s.2
  exact ⟨a,b,c,L,by rw [stP,h],by rw [encT_cells,h],hc⟩
theorem stP_par (x : Int) (t u : Tm) : stP (x,parT t u) = .agg [.i x,.i 3,.i 0,.sl false 3 [encT false t,encT false u]] := by simp [stP,parT,cellsT,encQ,encTs]
theorem stP_hide (x n : Int) (t : Tm) : stP (x,hideT n t) = .agg [.i x,.i 4,.i n,.sl false 3 [encT false t]] := by simp [stP,hideT,cellsT,encQ,encTs]
theorem plain_stP (s : Stp) : plain (stP s) = true := by
  obtain ⟨a,b,c,L,h,_,hL,hc⟩ := stP_form s
  rw [h]
  rcases hc with rfl | rfl <;> simp [plain,plains]
theorem plains_stPs (l : List Stp) : plains (stPs l) = true := by
  induction l with
  | nil => simp [stPs,plains]
  | cons s l ih => simp only [stPs,List.map_cons,plains,plain_stP,Bool.true_and] at ih ⊢; exact ih
def fstS (u : Tm) (a : List Stp) : List Stp := a.map fun s => (s.1,parT s.2 u)
def sndS (t : Tm) (b : List Stp) : List Stp := b.map fun s => (s.1,parT t s.2)
theorem loopSt0 (n : Int) (t u : Tm) (a b : List Stp) : ∀ (rest done out : List Stp),a = done ++ rest → a.length ≤ 1000000 → out.length + rest.length ≤ 4000000000 →
    loopI G [2,5,6,7,8] [2,14,28,36,43,51,57,83,109,157,206,215] c63l0 ⟨[(2,.ref (0,2) 1 0 0),(5,.own (0,14) out.length),(6,.own (0,51) a.length),(7,.own (0,57) b.length),(8,.i done.length)],
      [(2,.box [.i 3,.i n,.sl false 3 [encT false t,encT false u]]),(14,.row 4 (stPs out)),(51,.row 4 (stPs a)),(57,.row 4 (stPs b))],[]⟩ =
      some (.exit 1,⟨[(2,.ref (0,2) 1 0 0),(5,.own (0,14) (out ++ fstS u rest).length),(6,.own (0,51) a.length),(7,.own (0,57) b.length),(8,.i a.length),(61,.b false)],
        [(2,.box [.i 3,.i n,.sl false 3 [encT false t,encT false u]]),(14,.row 4 (stPs (out ++ fstS u rest))),(51,.row 4 (stPs a)),(57,.row 4 (stPs b))],[]⟩)
  | [],done,out,e,ha,ho => by
    have e : a = done := by simpa using e
    subst e
    have hf : out ++ fstS u [] = out := by simp [fstS]
    rw [hf]
    obtain ⟨x1,x2,x3,L3,hX,hL,hx3⟩ := encT_formF t
    obtain ⟨y1,y2,y3,M3,hY,hM,hy3⟩ := encT_formF u
    rw [hX,hY,loopI_eq]
    rcases hx3 with rfl | rfl <;> rcases hy3 with rfl | rfl <;> simp [r63l0,b63l0,hL,hM,fal,fals]
  | s :: rest,done,out,e,ha,ho => by
    have hpl : a.length = done.length + (rest.length + 1) := by rw [e]; simp
    have hlt : (done.length : Int) < a.length := by omega
    have hlt2 : done.length < a.length := by omega
    have hw : IntKind.i64.wrap ((done.length : Int) + 1) = (done.length : Int) + 1 := wr (by omega)
    have hat := stP_at done s rest
    rw [← e] at hat
    have hn := loopSt0 n t u a b rest (done ++ [s]) (out ++ [(s.1,parT s.2 u)]) (by rw [e]; simp) ha (by simp at ho ⊢; omega)
    have hf : out ++ fstS u (s :: rest) = out ++ [(s.1,parT s.2 u)] ++ fstS u rest := by simp [fstS]
    rw [hf]
    refine Eq.trans ?_ hn
    have ho2 : out.length ≤ 4294967295 := by simp at ho; omega
    have hpa := plains_stPs a
    rw [stPs_app,show stPs [(s.1,parT s.2 u)] = [stP (s.1,parT s.2 u)] from rfl,stP_par]
    obtain ⟨z1,z2,z3,N3,hZ,hZ2,hN,hz3⟩ := stP_form s
    obtain ⟨x1,x2,x3,L3,hX,hL,hx3⟩ := encT_formF t
    obtain ⟨y1,y2,y3,M3,hY,hM,hy3⟩ := encT_formF u
    rw [hZ] at hat
    rw [hZ2,hX,hY,loopI_eq]
    rcases hx3 with rfl | rfl <;> rcases hy3 with rfl | rfl <;> rcases hz3 with rfl | rfl <;> simp [r63l0,b63l0,hlt,hlt2,hat,hw,ho2,hpa,hL,hM,hN,fal,fals]
theorem loopSt1 (n : Int) (t u : Tm) (a b : List Stp) : ∀ (rest done out : List Stp),b = done ++ rest → b.length ≤ 1000000 → out.length + rest.length ≤ 4000000000 →
    loopI G [2,5,6,7,9] [2,14,28,36,43,51,57,83,109,157,206,215] c63l1 ⟨[(2,.ref (0,2) 1 0 0),(5,.own (0,14) out.length),(6,.own (0,51) a.length),(7,.own (0,57) b.length),(9,.i done.length)],
      [(2,.box [.i 3,.i n,.sl false 3 [encT false t,encT false u]]),(14,.row 4 (stPs out)),(51,.row 4 (stPs a)),(57,.row 4 (stPs b))],[]⟩ =
      some (.exit 3,⟨[(2,.ref (0,2) 1 0 0),(5,.own (0,14) (out ++ sndS t rest).length),(6,.own (0,51) a.length),(7,.own (0,57) b.length),(9,.i b.length),(87,.b false)],
        [(2,.box [.i 3,.i n,.sl false 3 [encT false t,encT false u]]),(14,.row 4 (stPs (out ++ sndS t rest))),(51,.row 4 (stPs a)),(57,.row 4 (stPs b))],[]⟩)
  | [],done,out,e,ha,ho => by
    have e : b = done := by simpa using e
    subst e
    have hf : out ++ sndS t [] = out := by simp [sndS]
    rw [hf]
    obtain ⟨x1,x2,x3,L3,hX,hL,hx3⟩ := encT_formF t
    obtain ⟨y1,y2,y3,M3,hY,hM,hy3⟩ := encT_formF u
    rw [hX,hY,loopI_eq]
    rcases hx3 with rfl | rfl <;> rcases hy3 with rfl | rfl <;> simp [r63l1,b63l1,hL,hM,fal,fals]
  | s :: rest,done,out,e,ha,ho => by
    have hpl : b.length = done.length + (rest.length + 1) := by rw [e]; simp
    have hlt : (done.length : Int) < b.length := by omega
    have hlt2 : done.length < b.length := by omega
    have hw : IntKind.i64.wrap ((done.length : Int) + 1) = (done.length : Int) + 1 := wr (by omega)
    have hat := stP_at done s rest
    rw [← e] at hat
    have hn := loopSt1 n t u a b rest (done ++ [s]) (out ++ [(s.1,parT t s.2)]) (by rw [e]; simp) ha (by simp at ho ⊢; omega)
    have hf : out ++ sndS t (s :: rest) = out ++ [(s.1,parT t s.2)] ++ sndS t rest := by simp [sndS]
    rw [hf]
    refine Eq.trans ?_ hn
    have ho2 : out.length ≤ 4294967295 := by simp at ho; omega
    have hpa := plains_stPs b
    rw [stPs_app,show stPs [(s.1,parT t s.2)] = [stP (s.1,parT t s.2)] from rfl,stP_par]
    obtain ⟨z1,z2,z3,N3,hZ,hZ2,hN,hz3⟩ := stP_form s
    obtain ⟨x1,x2,x3,L3,hX,hL,hx3⟩ := encT_formF t
    obtain ⟨y1,y2,y3,M3,hY,hM,hy3⟩ := encT_formF u
    rw [hZ] at hat
    rw [hZ2,hX,hY,loopI_eq]
    rcases hx3 with rfl | rfl <;> rcases hy3 with rfl | rfl <;> rcases hz3 with rfl | rfl <;> simp [r63l1,b63l1,hlt,hlt2,hat,hw,ho2,hpa,hL,hM,hN,fal,fals]
theorem loopSt2 (s : Stp) (hs1 : -4 ≤ s.1 ∧ s.1 ≤ 4) (a1 a2 a b : List Stp) (ha : a = a1 ++ s :: a2) (hal : a.length ≤ 1000000) (hb : ∀ r ∈ b,-4 ≤ r.1 ∧ r.1 ≤ 4) : ∀ (rest done out : List Stp),b = done ++ rest → b.length ≤ 1000000 → out.length + rest.length ≤ 4000000000 →
    loopI G [5,6,7,10,11] [14,28,36,43,51,57,83,109,157,206,215] c63l2 ⟨[(5,.own (0,14) out.length),(6,.own (0,51) a.length),(7,.own (0,57) b.length),(10,.i a1.length),(11,.i done.length)],
      [(14,.row 4 (stPs out)),(51,.row 4 (stPs a)),(57,.row 4 (stPs b))],[]⟩ =
      some (.exit 7,⟨[(5,.own (0,14) (out ++ syncL s rest).length),(6,.own (0,51) a.length),(7,.own (0,57) b.length),(10,.i a1.length),(11,.i b.length),(119,.b false)],
        [(14,.row 4 (stPs (out ++ syncL s rest))),(51,.row 4 (stPs a)),(57,.row 4 (stPs b))],[]⟩)
  | [],done,out,e,hbl,ho => by
    have e : b = done := by simpa using e
    subst e
    have hf : out ++ syncL s [] = out := by simp [syncL]
    rw [hf,loopI_eq]
    simp [r63l2,b63l2]
  | r :: rest,done,out,e,hbl,ho => by
    have hpl : b.length = done.length + (rest.length + 1) := by rw [e]; simp
    have hpa : a.length = a1.length + (a2.length + 1) := by rw [ha]; simp
    have hlt : (done.length : Int) < b.length := by omega
    have hlt2 : done.length < b.length := by omega
    have hla : a1.length < a.length := by omega
    have hw : IntKind.i64.wrap ((done.length : Int) + 1) = (done.length : Int) + 1 := wr (by omega)
    have hat := stP_at done r rest
    rw [← e] at hat
    have hat1 := stP_at a1 s a2
    rw [← ha] at hat1
    have hr1 := hb r (by rw [e]; simp)
    have hw2 : IntKind.i64.wrap (-r.1) = -r.1 := wr (by omega)
    have hw3 : IntKind.i64.wrap (0 - r.1) = -r.1 := by rw [show 0 - r.1 = -r.1 by omega]; exact hw2
    have hp1 := plains_stPs a
    have hp2 := plains_stPs b
    obtain ⟨z1,z2,z3,N3,hZ,hZ2,hN,hz3⟩ := stP_form s
    obtain ⟨x1,x2,x3,L3,hX,hX2,hL,hx3⟩ := stP_form r
    rw [hZ] at hat1
    rw [hX] at hat
    by_cases h0 : s.1 ≠ 0 ∧ s.1 = -r.1
    · have hn := loopSt2 s hs1 a1 a2 a b ha hal hb rest (done ++ [r]) (out ++ [(0,parT s.2 r.2)]) (by rw [e]; simp) hbl (by simp at ho ⊢; omega)
      have hf : out ++ syncL s (r :: rest) = out ++ [(0,parT s.2 r.2)] ++ syncL s rest := by simp only [syncL,List.flatMap_cons,if_pos h0,List.append_assoc]
      rw [hf]
      refine Eq.trans ?_ hn
      have ho2 : out.length ≤ 4294967295 := by simp at ho; omega
      rw [stPs_app,show stPs [((0 : Int),parT s.2 r.2)] = [stP (0,parT s.2 r.2)] from rfl,stP_par]
      rw [hZ2,hX2,loopI_eq]
      have h1 := h0.1
      have h2 := h0.2
      generalize s.1 = q at *
      generalize r.1 = p at *
      subst h2
      rcases hx3 with rfl | rfl <;> rcases hz3 with rfl | rfl <;> simp [r63l2,b63l2,hlt,hlt2,hla,hat,hat1,hw,hw2,hw3,ho2,hp1,hp2,h1,hL,hN,fal,fals]
    · have hn := loopSt2 s hs1 a1 a2 a b ha hal hb rest (done ++ [r]) out (by rw [e]; simp) hbl (by simp at ho; omega)
      have hf : out ++ syncL s (r :: rest) = out ++ syncL s rest := by simp only [syncL,List.flatMap_cons,if_neg h0,List.nil_append]
      rw [hf]
      refine Eq.trans ?_ hn
      rw [loopI_eq]
      by_cases h1 : s.1 = 0
      · rw [h1] at hat1
        rcases hx3 with rfl | rfl <;> rcases hz3 with rfl | rfl <;> simp [r63l2,b63l2,hlt,hlt2,hla,hat,hat1,hw,hw2,hw3,hp1,hp2,hL,hN,fal,fals]
      · have h2 : ¬ s.1 = -r.1 := fun e => h0 ⟨h1,e⟩
        rcases hx3 with rfl | rfl <;> rcases hz3 with rfl | rfl <;> simp [r63l2,b63l2,hlt,hlt2,hla,hat,hat1,hw,hw2,hw3,hp1,hp2,h1,h2,hL,hN,fal,fals]
theorem loopSt3 (a b : List Stp) (ha : ∀ r ∈ a,-4 ≤ r.1 ∧ r.1 ≤ 4) (hb : ∀ r ∈ b,-4 ≤ r.1 ∧ r.1 ≤ 4) (hal : a.length ≤ 1000000) (hbl : b.length ≤ 1000000) : ∀ (rest done out : List Stp),a = done ++ rest → out.length + (rest.flatMap fun s => syncL s b).length ≤ 3000000000 →
    loopI G [5,6,7,10] [14,28,36,43,51,57,83,109,157,206,215] c63l3 ⟨[(5,.own (0,14) out.length),(6,.own (0,51) a.length),(7,.own (0,57) b.length),(10,.i done.length)],
      [(14,.row 4 (stPs out)),(51,.row 4 (stPs a)),(57,.row 4 (stPs b))],[]⟩ =
      some (.exit 5,⟨[(5,.own (0,14) (out ++ rest.flatMap fun s => syncL s b).length),(6,.own (0,51) a.length),(7,.own (0,57) b.length),(10,.i a.length),(113,.b false)],
        [(14,.row 4 (stPs (out ++ rest.flatMap fun s => syncL s b))),(51,.row 4 (stPs a)),(57,.row 4 (stPs b))],[]⟩)
  | [],done,out,e,ho => by
    have e : a = done := by simpa using e
    subst e
    have hf : (out ++ List.flatMap (fun s => syncL s b) []) = out := by simp
    rw [hf,loopI_eq]
    simp [r63l3,b63l3]
  | s :: rest,done,out,e,ho => by
    have hpl : a.length = done.length + (rest.length + 1) := by rw [e]; simp
    have hlt : (done.length : Int) < a.length := by omega
    have hw : IntKind.i64.wrap ((done.length : Int) + 1) = (done.length : Int) + 1 := wr (by omega)
    have hlen : (syncL s b).length ≤ b.length := by
      have h1 := (syncL_len s b).1
      have h2 : visL b ≤ b.length := List.length_filter_le _ _
      split at h1 <;> omega
    simp only [List.flatMap_cons,List.length_append] at ho
    have hi := loopSt2 s (ha s (by rw [e]; simp)) done rest a b e hal hb b [] out rfl hbl (by omega)
    simp only [List.length_nil,show ((0 : Nat) : Int) = 0 from rfl] at hi
    have hn := loopSt3 a b ha hb hal hbl rest (done ++ [s]) (out ++ syncL s b) (by rw [e]; simp) (by simp only [List.length_append]; omega)
    have hf : (out ++ List.flatMap (fun s => syncL s b) (s :: rest)) = (out ++ syncL s b) ++ List.flatMap (fun s => syncL s b) rest := by simp
    rw [hf]
    refine Eq.trans ?_ hn
    generalize syncL s b = X at *
    rw [loopI_eq]
    generalize hO : out ++ X = O at *
    simp [r63l3,b63l3,hlt,hi,hw]
theorem loopSt4 (n : Int) (hn : 0 ≤ n ∧ n ≤ 3) (t : Tm) (a : List Stp) (ha : ∀ r ∈ a,-4 ≤ r.1 ∧ r.1 ≤ 4) (hal : a.length ≤ 1000000) : ∀ (rest done out : List Stp),a = done ++ rest → out.length + rest.length ≤ 4000000000 →
    loopI G [2,5,12,13] [2,14,28,36,43,83,109,157,165,206,215] c63l4 ⟨[(2,.ref (0,2) 1 0 0),(5,.own (0,14) out.length),(12,.own (0,165) a.length),(13,.i done.length)],
      [(2,.box [.i 4,.i n,.sl false 3 [encT false t]]),(14,.row 4 (stPs out)),(165,.row 4 (stPs a))],[]⟩ =
      some (.exit 9,⟨[(2,.ref (0,2) 1 0 0),(5,.own (0,14) (out ++ hidT n rest).length),(12,.own (0,165) a.length),(13,.i a.length),(169,.b false)],
        [(2,.box [.i 4,.i n,.sl false 3 [encT false t]]),(14,.row 4 (stPs (out ++ hidT n rest))),(165,.row 4 (stPs a))],[]⟩)
  | [],done,out,e,ho => by
    have e : a = done := by simpa using e
    subst e
    have hf : out ++ hidT n [] = out := by simp [hidT]
    rw [hf]
    obtain ⟨x1,x2,x3,L3,hX,hL,hx3⟩ := encT_formF t
    rw [hX,loopI_eq]
    rcases hx3 with rfl | rfl <;> simp [r63l4,b63l4,hL,fal,fals]
  | s :: rest,done,out,e,ho => by
    have hpl : a.length = done.length + (rest.length + 1) := by rw [e]; simp
    have hlt : (done.length : Int) < a.length := by omega
    have hlt2 : done.length < a.length := by omega
    have hw : IntKind.i64.wrap ((done.length : Int) + 1) = (done.length : Int) + 1 := wr (by omega)
    have hat := stP_at done s rest
    rw [← e] at hat
    have hs1 := ha s (by rw [e]; simp)
    have hnm := eqName1 s.1 (by omega)
    rw [show (if s.1 < -s.1 then -s.1 else s.1) - 1 = name1 s.1 from rfl] at hnm
    have hpa := plains_stPs a
    obtain ⟨z1,z2,z3,N3,hZ,hZ2,hN,hz3⟩ := stP_form s
    obtain ⟨x1,x2,x3,L3,hX,hL,hx3⟩ := encT_formF t
    rw [hZ] at hat
    by_cases h0 : s.1 = 0 ∨ name1 s.1 ≠ n
    · have hn := loopSt4 n hn t a ha hal rest (done ++ [s]) (out ++ [(s.1,hideT n s.2)]) (by rw [e]; simp) (by simp at ho ⊢; omega)
      have hf : out ++ hidT n (s :: rest) = out ++ [(s.1,hideT n s.2)] ++ hidT n rest := by simp only [hidT,List.flatMap_cons,if_pos h0,List.append_assoc]
      rw [hf]
      refine Eq.trans ?_ hn
      have ho2 : out.length ≤ 4294967295 := by simp at ho; omega
      rw [stPs_app,show stPs [(s.1,hideT n s.2)] = [stP (s.1,hideT n s.2)] from rfl,stP_hide]
      rw [hZ2,hX,loopI_eq]
      by_cases h1 : s.1 = 0
      · rw [h1] at hat ⊢
        rcases hx3 with rfl | rfl <;> rcases hz3 with rfl | rfl <;> simp [r63l4,b63l4,hlt,hlt2,hat,hw,ho2,hpa,hL,hN,fal,fals]
      · have h2 : ¬ name1 s.1 = n := h0.resolve_left h1
        generalize name1 s.1 = q at *
        rcases hx3 with rfl | rfl <;> rcases hz3 with rfl | rfl <;> simp [r63l4,b63l4,hlt,hlt2,hat,hw,ho2,hpa,hnm,h1,h2,hL,hN,fal,fals]
    · have hn := loopSt4 n hn t a ha hal rest (done ++ [s]) out (by rw [e]; simp) (by simp at ho; omega)
      have hf : out ++ hidT n (s :: rest) = out ++ hidT n rest := by simp only [hidT,List.flatMap_cons,if_neg h0,List.nil_append]
      rw [hf]
      refine Eq.trans ?_ hn
      simp only [not_or,ne_eq,Classical.not_not] at h0
      obtain ⟨h1,h2⟩ := h0
      rw [h2] at hnm
      rw [hX,loopI_eq]
      rcases hx3 with rfl | rfl <;> rcases hz3 with rfl | rfl <;> simp [r63l4,b63l4,hlt,hlt2,hat,hw,hpa,hnm,h1,hL,hN,fal,fals]
end Go.Am
end
section
set_option maxRecDepth 10000
set_option maxHeartbeats 16000000
set_option linter.unusedSimpArgs false
set_option linter.unusedVariables false
namespace Go.Am
open Go.Proofs Go.Sort Go.Shelf
abbrev StepsAt (ds : List Tm) (t : Tm) (l : List Stp) : Prop := callI G 63 [encT false t,encQ false ds] [] = some (.sl true 4 (stPs l),[])
theorem eqSteps0n (ds : List Tm) : StepsAt ds (.mk 0 0 []) [] := by
  unfold StepsAt
  rw [callI_eq]
  rcases encQ_form false ds with ⟨e,e0⟩ | ⟨F,e,e1,_⟩ <;> rw [e] <;> simp [body1_eq _ _ (gp 63) g63,c63,a63,encT,encQ,stPs]
theorem eqSteps0a (ds : List Tm) (n : Int) (p : Tm) : StepsAt ds (.mk 1 n [p]) [(n,p)] := by
  unfold StepsAt
  have h : stPs [(n,p)] = [stP (n,p)] := rfl
  obtain ⟨z1,z2,z3,N3,hZ,hZ2,hN,hz3⟩ := stP_form (n,p)
  simp only at hZ hZ2
  rw [callI_eq,h,hZ]
  simp only [encT,encQ,encTs,hZ2]
  rcases encQ_form false ds with ⟨e,e0⟩ | ⟨F,e,e1,_⟩ <;> rw [e] <;> rcases hz3 with rfl | rfl <;> simp [body1_eq _ _ (gp 63) g63,c63,a63,hN]
theorem eqSteps0s (ds : List Tm) (p q : Tm) (a b : List Stp) (ha : StepsAt ds p a) (hb : StepsAt ds q b) (hl : a.length + b.length ≤ 4000000000) : StepsAt ds (.mk 2 0 [p,q]) (a ++ b) := by
  unfold StepsAt at *
  obtain ⟨x1,x2,x3,L3,hX,hL,hx3⟩ := encT_formF p
  obtain ⟨y1,y2,y3,M3,hY,hM,hy3⟩ := encT_formF q
  rw [hX] at ha
  rw [hY] at hb
  have h1 : a.length + b.length ≤ 4294967296 := by omega
  rw [callI_eq,stPs_app]
  simp only [encT,encQ,encTs,hX,hY]
  rcases encQ_form false ds with ⟨e,e0⟩ | ⟨F,e,e1,_⟩ <;> rw [e] at ha hb ⊢ <;> rcases hx3 with rfl | rfl <;> rcases hy3 with rfl | rfl <;> simp [body1_eq _ _ (gp 63) g63,c63,a63,ha,hb,h1]
theorem eqSteps0p (ds : List Tm) (p q : Tm) (a b : List Stp) (ha : StepsAt ds p a) (hb : StepsAt ds q b) (hl : (parS p q a b).length ≤ 2000000000) (hal : a.length ≤ 1000000) (hbl : b.length ≤ 1000000)
    (ha4 : ∀ r ∈ a,-4 ≤ r.1 ∧ r.1 ≤ 4) (hb4 : ∀ r ∈ b,-4 ≤ r.1 ∧ r.1 ≤ 4) : StepsAt ds (.mk 3 0 [p,q]) (parS p q a b) := by
  unfold StepsAt at *
  have hpar : parS p q a b = (fstS q a ++ sndS p b) ++ a.flatMap fun s => syncL s b := by simp [parS,fstS,sndS,syncL]
  rw [hpar] at hl ⊢
  have hf : (fstS q a).length = a.length := by simp [fstS]
  have hs : (sndS p b).length = b.length := by simp [sndS]
  simp only [List.length_append] at hl
  have l0 := loopSt0 0 p q a b a [] [] rfl hal (by simp only [List.length_nil]; omega)
  have l1 := loopSt1 0 p q a b b [] (fstS q a) rfl hbl (by omega)
  have l3 := loopSt3 a b ha4 hb4 hal hbl a [] (fstS q a ++ sndS p b) rfl (by simp only [List.length_append]; omega)
  simp only [List.nil_append,List.length_nil,show ((0 : Nat) : Int) = 0 from rfl,show stPs [] = [] from rfl] at l0 l1 l3
  obtain ⟨x1,x2,x3,L3,hX,hL,hx3⟩ := encT_formF p
  obtain ⟨y1,y2,y3,M3,hY,hM,hy3⟩ := encT_formF q
  rw [hX] at ha l0 l1
  rw [hY] at hb l0 l1
  rw [callI_eq]
  simp only [encT,encQ,encTs,hX,hY]
  generalize hO : (fstS q a ++ sndS p b) = O at *
  generalize hQ : (O ++ a.flatMap fun s => syncL s b) = Q at *
  generalize hF : fstS q a = F1 at *
  rcases encQ_form false ds with ⟨e,e0⟩ | ⟨F,e,e1,_⟩ <;> rw [e] at ha hb ⊢ <;> rcases hx3 with rfl | rfl <;> rcases hy3 with rfl | rfl <;> simp [body1_eq _ _ (gp 63) g63,c63,a63,ha,hb,l0,l1,l3]
theorem eqSteps0h (ds : List Tm) (n : Int) (hn : 0 ≤ n ∧ n ≤ 3) (p : Tm) (a : List Stp) (ha : StepsAt ds p a) (hal : a.length ≤ 1000000)
    (ha4 : ∀ r ∈ a,-4 ≤ r.1 ∧ r.1 ≤ 4) : StepsAt ds (.mk 4 n [p]) (hidT n a) := by
  unfold StepsAt at *
  have l4 := loopSt4 n hn p a ha4 hal a [] [] rfl (by simp only [List.length_nil]; omega)
  simp only [List.nil_append,List.length_nil,show ((0 : Nat) : Int) = 0 from rfl,show stPs [] = [] from rfl] at l4
  obtain ⟨x1,x2,x3,L3,hX,hL,hx3⟩ := encT_formF p
  rw [hX] at ha l4
  rw [callI_eq]
  simp only [encT,encQ,encTs,hX]
  generalize hidT n a = Q at *
  rcases encQ_form false ds with ⟨e,e0⟩ | ⟨F,e,e1,_⟩ <;> rw [e] at ha ⊢ <;> rcases hx3 with rfl | rfl <;> simp [body1_eq _ _ (gp 63) g63,c63,a63,ha,l4]
theorem eqSteps0c (ds : List Tm) (n : Int) (hn : 0 ≤ n ∧ n ≤ 2) (d : Tm) (hd : ds[n.toNat]? = some d) (a : List Stp) (ha : StepsAt ds d a) : StepsAt ds (.mk 5 n []) a := by
  unfold StepsAt at *
  have hlt : n.toNat < ds.length := by
    rcases Nat.lt_or_ge n.toNat ds.length with h | h
    · exact h
    · rw [List.getElem?_eq_none h] at hd; cases hd
  have hlt2 : n < ds.length := by omega
  have hat : nth (encTs false ds) n.toNat = some (encT false d) := by simp [nth,encTs_map,hd]
  obtain ⟨x1,x2,x3,L3,hX,hL,hx3⟩ := encT_formF d
  have hne : ds ≠ [] := by intro e; rw [e] at hlt; simp at hlt
  rw [hX] at ha hat
  rw [encQ_c false hne] at ha ⊢
  have hl3 : (encTs false ds).length = ds.length := encTs_len false ds
  generalize encTs false ds = F at *
  rw [callI_eq]
  simp only [encT,encQ]
  rcases hx3 with rfl | rfl <;> simp [body1_eq _ _ (gp 63) g63,c63,a63,ha,hat,hl3,hlt,hlt2,hn.1]
theorem stT_acts {m : Int} {z : Nat} {l : List Stp} (h : ∀ s ∈ l,GoodS m z s) : ∀ s ∈ l,-4 ≤ s.1 ∧ s.1 ≤ 4 := fun s hs => (h s hs).1
theorem eqStepsK (ds : List Tm) (hd : DsOk ds) (C : Tm → Prop) (h1 : ∀ o n a,C (.mk o n [a]) → o ≠ 1 → C a) (h2 : ∀ o n a b,C (.mk o n [a,b]) → C a ∧ C b)
    (h5 : ∀ n,C (.mk 5 n []) → 0 ≤ n → n < ds.length → ∃ d,ds[n.toNat]? = some d ∧ StepsAt ds d (kD ds n)) : ∀ t : Tm,WfT ds.length t → szT t ≤ 24 → C t → StepsAt ds t (stD ds t)
  | .mk o n [],hw,hz,hC => by
    unfold WfT at hw
    have hl := hw.2.1
    have hh := headOk_n hw.1
    rcases eqHead o n hw.1 with ⟨rfl,rfl⟩ | ⟨rfl,hk⟩ | ⟨rfl,rfl⟩ | ⟨rfl,rfl⟩ | ⟨rfl,hk⟩ | ⟨rfl,hk⟩
    · have : stD ds (.mk 0 0 []) = [] := by simp [stD,stT]
      rw [this]
      exact eqSteps0n ds
    · simp [wantN] at hl
    · simp [wantN] at hl
    · simp [wantN] at hl
    · simp [wantN] at hl
    · have e : stD ds (.mk 5 n []) = kD ds n := by simp [stD,stT]
      rw [e]
      obtain ⟨d,d1,d2⟩ := h5 n hC hk.1 (hw.2.2.1 rfl)
      exact eqSteps0c ds n hk d d1 _ d2
  | .mk o n [a],hw,hz,hC => by
    have hw0 := hw
    unfold WfT at hw
    have hl := hw.2.1
    have hwa : WfT ds.length a := by have := hw.2.2.2; unfold WfTs at this; exact this.1
    have hsz : szT (.mk o n [a]) = szT a + 1 := by simp [szT,szTs]
    rcases eqHead o n hw.1 with ⟨rfl,rfl⟩ | ⟨rfl,hk⟩ | ⟨rfl,rfl⟩ | ⟨rfl,rfl⟩ | ⟨rfl,hk⟩ | ⟨rfl,hk⟩
    · simp [wantN] at hl
    · have : stD ds (.mk 1 n [a]) = [(n,a)] := by simp [stD,stT]
      rw [this]
      exact eqSteps0a ds n a
    · simp [wantN] at hl
    · simp [wantN] at hl
    · have ih := eqStepsK ds hd C h1 h2 h5 a hwa (by omega) (h1 _ _ _ hC (by decide))
      have : stD ds (.mk 4 n [a]) = hidT n (stD ds a) := by simp [stD,stT]
      rw [this]
      have hb := stD_len hd a (by omega)
      exact eqSteps0h ds n hk a _ ih (by omega) (stT_acts (stD_good hd a hwa (by omega)))
    · simp [wantN] at hl
  | .mk o n [a,b],hw,hz,hC => by
    have hw0 := hw
    unfold WfT at hw
    have hl := hw.2.1
    have hwb := hw.2.2.2
    unfold WfTs WfTs at hwb
    have hsz : szT (.mk o n [a,b]) = szT a + szT b + 1 := by simp [szT,szTs]
    have iha := eqStepsK ds hd C h1 h2 h5 a hwb.1 (by omega) (h2 _ _ _ _ hC).1
    have ihb := eqStepsK ds hd C h1 h2 h5 b hwb.2.1 (by omega) (h2 _ _ _ _ hC).2
    have hba := stD_len hd a (by omega)
    have hbb := stD_len hd b (by omega)
    rcases eqHead o n hw.1 with ⟨rfl,rfl⟩ | ⟨rfl,hk⟩ | ⟨rfl,rfl⟩ | ⟨rfl,rfl⟩ | ⟨rfl,hk⟩ | ⟨rfl,hk⟩
    · simp [wantN] at hl
    · simp [wantN] at hl
    · have : stD ds (.mk 2 0 [a,b]) = stD ds a ++ stD ds b := by simp [stD,stT]
      rw [this]
      exact eqSteps0s ds a b _ _ iha ihb (by omega)
    · have e : stD ds (.mk 3 0 [a,b]) = parS a b (stD ds a) (stD ds b) := by simp [stD,stT]
      have hlen := stD_len hd _ hz
      rw [e] at hlen ⊢
      exact eqSteps0p ds a b _ _ iha ihb (by omega) (by omega) (by omega) (stT_acts (stD_good hd a hwb.1 (by omega))) (stT_acts (stD_good hd b hwb.2.1 (by omega)))
    · simp [wantN] at hl
    · simp [wantN] at hl
  | .mk o n (_ :: _ :: _ :: _),hw,hz,hC => by
    exfalso
    unfold WfT at hw
    have hl := hw.2.1
    unfold wantN at hl
    simp only [List.length_cons] at hl
    (repeat' split at hl) <;> omega
theorem eqSteps (ds : List Tm) (hd : DsOk ds) (t : Tm) (hw : WfT ds.length t) (hz : szT t ≤ 24) : StepsAt ds t (stD ds t) := by
  refine eqStepsK ds hd (fun _ => True) (fun _ _ _ _ _ => trivial) (fun _ _ _ _ _ => ⟨trivial,trivial⟩) (fun n _ h0 hlt => ?_) t hw hz trivial
  have hlt2 : n.toNat < ds.length := by omega
  refine ⟨ds[n.toNat],List.getElem?_eq_getElem hlt2, ?_⟩
  obtain ⟨a,b,c⟩ := hd.2 _ (List.getElem_mem hlt2)
  have e : kD ds n = stD ds ds[n.toNat] := by
    unfold kD stD
    rw [List.getElem?_eq_getElem hlt2]
    simp only [if_pos h0]
    exact stT_gd _ _ _ c
  rw [e]
  refine eqStepsK ds hd gdT (fun o n a h ho => ?_) (fun o n a b h => ?_) (fun n h _ _ => ?_) _ a b c
  · unfold gdT at h; exact h.resolve_left ho
  · unfold gdT at h; exact h
  · unfold gdT at h; exact absurd rfl h
end Go.Am
end
section
set_option maxRecDepth 10000
set_option maxHeartbeats 1000000
set_option linter.unusedSimpArgs false
set_option linter.unusedVariables false
namespace Go.Am
open Go.Proofs Go.Sort Go.Shelf
def atS (n : Nat) (row : List Int) : List PV := (List.range n).map fun k : Nat => PV.i (atOf row k)
@[simp] theorem atS_len (n : Nat) (row : List Int) : (atS n row).length = n := by simp [atS]
end Go.Am
end
section
set_option maxRecDepth 10000
set_option maxHeartbeats 1000000
set_option linter.unusedSimpArgs false
set_option linter.unusedVariables false
namespace Go.Am
open Go.Proofs Go.Sort Go.Shelf
end Go.Am
end
section
set_option maxRecDepth 10000
set_option maxHeartbeats 1000000
set_option linter.unusedSimpArgs false
set_option linter.unusedVariables false
namespace Go.Am
open Go.Proofs Go.Sort Go.Shelf
end Go.Am
end
section
set_option maxRecDepth 10000
set_option maxHeartbeats 1000000
set_option linter.unusedSimpArgs false
set_option linter.unusedVariables false
namespace Go.Am
open Go.Proofs Go.Sort Go.Shelf
theorem SmallG.fit {g : Gr} (h : SmallG g) : FitG g := ⟨by have := h.1; omega,fun l hl => by have := h.2 l hl; omega⟩
theorem tidyL_len (l : List Mv) : (tidyL l).length ≤ l.length := by
  have h : (srtM l).length = l.length := by simp [srtM]
  unfold tidyL
  cases hs : srtM l with
  | nil => simp [dd]
  | cons x r =>
    rw [hs] at h
    have := ddup_len x r
    simp only [dd,List.length_cons] at h ⊢
    omega
theorem encM_ne {nl u : Bool} {g : Gr} (h : g ≠ []) : encM' nl u g = .sl u 1 (encGs nl u g) := by
  unfold encM'
  split
  · rename_i k; simp only [Bool.and_eq_true,List.isEmpty_iff] at k; exact absurd k.2 h
  · rfl
end Go.Am
end
section
set_option maxRecDepth 10000
set_option maxHeartbeats 16000000
set_option linter.unusedSimpArgs false
set_option linter.unusedVariables false
namespace Go.Am
open Go.Proofs Go.Sort Go.Shelf
def g3P (g : Gr) : PV := if g = [] then .nils else .own (0,103) g.length
def g3L (g : Gr) : Objs := if g = [] then [] else [(103,.row 1 (encGs true true g))]
theorem g3_two (g : Gr) : (g = [] ∧ g3P g = .nils ∧ g3L g = []) ∨ (g ≠ [] ∧ g3P g = .own (0,103) g.length ∧ g3L g = [(103,.row 1 (encGs true true g))]) := by
  by_cases h : g = []
  · exact .inl ⟨h,by simp [g3P,h],by simp [g3L,h]⟩
  · exact .inr ⟨h,by simp [g3P,h],by simp [g3L,h]⟩
theorem known_encQ (ds : List Tm) (f : Nat → Bool) (n : Nat) : known f n (encQ false ds) = true := by cases ds <;> simp [encQ,known]
theorem plains_str (T : List ByteArray) : plains (T.map PV.s) = true := by
  induction T with
  | nil => rfl
  | cons t T ih => simp only [List.map_cons,plains,plain,Bool.true_and]; exact ih
theorem str_at (T : List ByteArray) (k : Nat) (h : k < T.length) : nth (T.map PV.s) k = some (.s T[k]) := by simp [nth,h]
theorem plain_encTf : ∀ t : Tm,plain (encT false t) = true
  | .mk o n ps => by cases ps <;> simp [encT,encQ,plain,plains]
theorem plains_encTs (S : List Tm) : plains (encTs false S) = true := by
  induction S with
  | nil => rfl
  | cons t T ih => simp only [encTs,plains,plain_encTf,Bool.true_and]; exact ih
theorem encTs_snoc (S : List Tm) (x : Tm) : encTs false (S ++ [x]) = encTs false S ++ [encT false x] := by simp [encTs_map]
theorem loopGr0 (D : PV) (hKD : ∀ f n,known f n D = true) (S : List Tm) (A : List Stp) (M : List Mv) (g : Gr) (T : List ByteArray) (s i : Int) (x : ByteArray) (hT : T.length = S.length) (hS : S.length ≤ 60) : ∀ (k to : Nat),to + k = T.length →
    ∃ to' : Nat,to' ≤ T.length ∧ loopI G [1,4,6,7,8,9,10,11,12,13,14] [4,8,16,19,32,33,83,87,97,103] c49l0 ⟨[(1,D),(4,.ref (0,4) 1 0 0),(6,.own (0,16) S.length),(7,.own (0,19) S.length),(8,.ref (0,8) 1 0 0),(9,.i s),(10,.own (0,32) A.length),(11,.own (0,33) M.length),(12,.i i),(13,.s x),(14,.i to)],(4,.box [.nils]) :: (8,.box [g3P g]) :: (16,.row 3 (encTs false S)) :: (19,.row 1 (T.map PV.s)) :: (32,.row 4 (stPs A)) :: (33,.row 2 (M.map mvP)) :: g3L g,[]⟩ =
      some (.exit 4,⟨[(1,D),(4,.ref (0,4) 1 0 0),(6,.own (0,16) S.length),(7,.own (0,19) S.length),(8,.ref (0,8) 1 0 0),(9,.i s),(10,.own (0,32) A.length),(11,.own (0,33) M.length),(12,.i i),(13,.s x),(14,.i to'),(57,.b false)],(4,.box [.nils]) :: (8,.box [g3P g]) :: (16,.row 3 (encTs false S)) :: (19,.row 1 (T.map PV.s)) :: (32,.row 4 (stPs A)) :: (33,.row 2 (M.map mvP)) :: g3L g,[]⟩)
  | 0,to,e => by
    have hp1 := plains_str T
    have hl1 : S.length = T.length := hT.symm
    have h1 : ¬ (to : Int) < T.length := by omega
    refine ⟨to,by omega, ?_⟩
    rw [loopI_eq]
    rcases g3_two g with ⟨_,h2,h3⟩ | ⟨_,h2,h3⟩ <;> rw [h2,h3] <;> simp [hKD,r49l0,b49l0,hl1,h1,encTs_len]
  | k + 1,to,e => by
    have hp1 := plains_str T
    have hl1 : S.length = T.length := hT.symm
    have hlt : to < T.length := by omega
    have hlt2 : (to : Int) < T.length := by omega
    have hw : IntKind.i64.wrap ((to : Int) + 1) = (to : Int) + 1 := wr (by omega)
    have hat := str_at T to hlt
    generalize T[to] = y at hat
    cases hq : (y.toList == x.toList) with
    | true =>
      refine ⟨to,by omega, ?_⟩
      rw [loopI_eq]
      rcases g3_two g with ⟨_,h2,h3⟩ | ⟨_,h2,h3⟩ <;> rw [h2,h3] <;> simp [hKD,r49l0,b49l0,hl1,hlt,hlt2,hat,hp1,hq,encTs_len]
    | false =>
      obtain ⟨to',a1,hn⟩ := loopGr0 D hKD S A M g T s i x hT hS k (to + 1) (by omega)
      refine ⟨to',a1, ?_⟩
      refine Eq.trans ?_ hn
      rw [show ((to + 1 : Nat) : Int) = (to : Int) + 1 by omega,loopI_eq]
      rcases g3_two g with ⟨_,h2,h3⟩ | ⟨_,h2,h3⟩ <;> rw [h2,h3] <;> simp [hKD,r49l0,b49l0,hl1,hlt,hlt2,hat,hp1,hq,hw,encTs_len]
end Go.Am
end
section
set_option maxRecDepth 10000
set_option maxHeartbeats 16000000
set_option linter.unusedSimpArgs false
set_option linter.unusedVariables false
namespace Go.Am
open Go.Proofs Go.Sort Go.Shelf
structure GrOk (ds S : List Tm) (T : List ByteArray) : Prop where
  t : T.length = S.length
  n : S.length ≤ 60
  w : ∀ x ∈ S,WfT ds.length x ∧ szT x ≤ 24
mutual
theorem va_nodes : ∀ x : Tm,VaT x → nodesT x = min 1000 (szT x)
  | .mk o n ps,h => by
    unfold VaT at h
    unfold nodesT szT
    rw [if_pos ⟨h.1,h.2.1⟩,va_nodess 1 ps (by omega) h.2.2]
    omega
theorem va_nodess : ∀ (k : Nat) (ps : List Tm),k ≤ 1000 → VaTs ps → nodesL k ps = min 1000 (k + szTs ps)
  | k,[],hk,h => by unfold nodesL szTs; omega
  | k,p :: ps,hk,h => by
    unfold VaTs at h
    have h1 := va_nodes p h.1
    have h2 := szT_pos p
    unfold nodesL szTs
    rw [if_neg (by omega),va_nodess (min 1000 (k + nodesT p)) ps (by omega) h.2]
    omega
end
theorem nodes_small {m : Int} {x : Tm} (hw : WfT m x) (h : ¬ (24 : Int) < nodesT x) : szT x ≤ 24 := by
  have := va_nodes x hw.va
  omega
theorem loopGr1 (D : PV) (hKD : ∀ f n,known f n D = true) (ds : List Tm) (A : List Stp) (hA : ∀ r ∈ A,GoodS ds.length 576 r) (hAl : A.length ≤ 400000) (g : Gr) (s : Int) : ∀ (rest done : List Stp) (S : List Tm) (T : List ByteArray) (M : List Mv),A = done ++ rest → GrOk ds S T → M.length = done.length →
    ∃ ex,loopI G [1,4,6,7,8,9,10,11,12] [4,8,16,19,32,33,83,87,97,103] c49l1 ⟨[(1,D),(4,.ref (0,4) 1 0 0),(6,.own (0,16) S.length),(7,.own (0,19) S.length),(8,.ref (0,8) 1 0 0),(9,.i s),(10,.own (0,32) A.length),(11,.own (0,33) M.length),(12,.i done.length)],(4,.box [.nils]) :: (8,.box [g3P g]) :: (16,.row 3 (encTs false S)) :: (19,.row 1 (T.map PV.s)) :: (32,.row 4 (stPs A)) :: (33,.row 2 (M.map mvP)) :: g3L g,[]⟩ = some ex ∧
      (ex = (.ret,⟨[(4,.ref (0,4) 1 0 0),(5,.b false)],(4,.box [.nils]) :: g3L g,[]⟩) ∨ ∃ (S' : List Tm) (T' : List ByteArray) (M' : List Mv),GrOk ds S' T' ∧ S.length ≤ S'.length ∧ M'.length = A.length ∧ ex = (.exit 2,⟨[(1,D),(4,.ref (0,4) 1 0 0),(6,.own (0,16) S'.length),(7,.own (0,19) S'.length),(8,.ref (0,8) 1 0 0),(9,.i s),(10,.own (0,32) A.length),(11,.own (0,33) M'.length),(12,.i A.length),(37,.b false)],(4,.box [.nils]) :: (8,.box [g3P g]) :: (16,.row 3 (encTs false S')) :: (19,.row 1 (T'.map PV.s)) :: (32,.row 4 (stPs A)) :: (33,.row 2 (M'.map mvP)) :: g3L g,[]⟩))
  | [],done,S,T,M,e,hG,hM => by
    have e : A = done := by simpa using e
    subst e
    refine ⟨_, ?_,.inr ⟨S,T,M,hG,Nat.le_refl _,hM,rfl⟩⟩
    have hl1 : S.length = T.length := hG.t.symm
    rw [loopI_eq]
    rcases g3_two g with ⟨_,h2,h3⟩ | ⟨_,h2,h3⟩ <;> rw [h2,h3] <;> simp [hKD,r49l1,b49l1,hl1,hM,encTs_len]
  | r :: rest,done,S,T,M,e,hG,hM => by
    have hpl : A.length = done.length + (rest.length + 1) := by rw [e]; simp
    have hlt : (done.length : Int) < A.length := by omega
    have hlt2 : done.length < A.length := by omega
    have hw : IntKind.i64.wrap ((done.length : Int) + 1) = (done.length : Int) + 1 := wr (by omega)
    have hat := stP_at done r rest
    rw [← e] at hat
    obtain ⟨g1,g2,g3⟩ := hA r (by rw [e]; simp)
    obtain ⟨b,hb,ht⟩ := eqText r.2 g2.va (by omega)
    have hno := eqNodes r.2
    have hpa := plains_stPs A
    have hl1 : S.length = T.length := hG.t.symm
    have hS60 := hG.n
    have hM9 : done.length ≤ 4294967295 := by omega
    obtain ⟨to,hto,hl0⟩ := loopGr0 D hKD S A M g T s done.length b hG.t hG.n T.length 0 (by omega)
    simp only [show ((0 : Nat) : Int) = 0 from rfl] at hl0
    obtain ⟨z1,z2,z3,N3,hZ,hZ2,hN,hz3⟩ := stP_form r
    rw [hZ] at hat
    rw [hZ2] at ht hno
    rw [hl1] at hS60 hl0
    rw [hM] at hl0 ⊢
    by_cases hin : to = T.length
    · subst hin
      by_cases h60 : T.length = 60
      · refine ⟨_, ?_,.inl rfl⟩
        rw [h60] at hl0 hl1
        simp only [show ((60 : Nat) : Int) = 60 from rfl] at hl0
        rw [loopI_eq,hl1]
        rcases g3_two g with ⟨_,h2,h3⟩ | ⟨_,h2,h3⟩ <;> rw [h2,h3] at hl0 ⊢ <;> rcases hz3 with rfl | rfl <;> simp [hKD,r49l1,b49l1,hl1,h60,hlt,hlt2,hat,hpa,ht,hl0,hM,encTs_len]
      · have h60' : ¬ (T.length : Int) = 60 := by omega
        by_cases h24 : (24 : Int) < nodesT r.2
        · refine ⟨_, ?_,.inl rfl⟩
          rw [loopI_eq,hl1]
          rcases g3_two g with ⟨_,h2,h3⟩ | ⟨_,h2,h3⟩ <;> rw [h2,h3] at hl0 ⊢ <;> rcases hz3 with rfl | rfl <;> simp [hKD,r49l1,b49l1,hl1,h60,h60',hlt,hlt2,hat,hpa,ht,hl0,hno,h24,hM,encTs_len]
        · have hG' : GrOk ds (S ++ [r.2]) (T ++ [b]) := by
            refine ⟨by simp [hl1],by simp; omega,fun x hx => ?_⟩
            rcases List.mem_append.1 hx with h | h
            · exact hG.w x h
            · simp only [List.mem_singleton] at h
              subst h
              exact ⟨g2,nodes_small g2 h24⟩
          obtain ⟨ex,hn,hr⟩ := loopGr1 D hKD ds A hA hAl g s rest (done ++ [r]) (S ++ [r.2]) (T ++ [b]) (M ++ [(r.1,(T.length : Int))]) (by rw [e]; simp) hG' (by simp [hM])
          refine ⟨ex, ?_, ?_⟩
          · refine Eq.trans ?_ hn
            have hT9 : T.length ≤ 4294967295 := by omega
            rw [encTs_snoc,hZ2,loopI_eq]
            simp only [List.length_append,List.map_append,List.length_cons,List.length_nil,List.map_cons,List.map_nil,hl1]
            rcases g3_two g with ⟨_,h2,h3⟩ | ⟨_,h2,h3⟩ <;> rw [h2,h3] at hl0 ⊢ <;> rcases hz3 with rfl | rfl <;> simp [hKD,r49l1,b49l1,hl1,h60,h60',hlt,hlt2,hat,hpa,ht,hl0,hno,h24,hM,hM9,hT9,hw,mvP,encTs_len]
          · rcases hr with hr | ⟨S',T',M',q1,q2,q3,q4⟩
            · exact .inl hr
            · exact .inr ⟨S',T',M',q1,by simp at q2; omega,q3,q4⟩
    · have hin' : ¬ (to : Int) = T.length := by omega
      obtain ⟨ex,hn,hr⟩ := loopGr1 D hKD ds A hA hAl g s rest (done ++ [r]) S T (M ++ [(r.1,(to : Int))]) (by rw [e]; simp) hG (by simp [hM])
      refine ⟨ex, ?_,hr⟩
      refine Eq.trans ?_ hn
      rw [loopI_eq]
      simp only [List.length_append,List.map_append,List.length_cons,List.length_nil,List.map_cons,List.map_nil,hl1]
      rcases g3_two g with ⟨_,h2,h3⟩ | ⟨_,h2,h3⟩ <;> rw [h2,h3] at hl0 ⊢ <;> rcases hz3 with rfl | rfl <;> simp [hKD,r49l1,b49l1,hl1,hin,hin',hlt,hlt2,hat,hpa,ht,hl0,hM,hM9,hw,mvP,encTs_len]
end Go.Am
end
section
set_option maxRecDepth 10000
set_option maxHeartbeats 16000000
set_option linter.unusedSimpArgs false
set_option linter.unusedVariables false
namespace Go.Am
open Go.Proofs Go.Sort Go.Shelf
theorem loopGr2 (ds : List Tm) (hds : DsOk ds) : ∀ (k s : Nat) (S : List Tm) (T : List ByteArray) (g : Gr),s + k = 60 → s ≤ S.length → GrOk ds S T → g.length = s → (∀ l ∈ g,l.length ≤ 400000) →
    ∃ ex,loopI G [1,4,6,7,8,9] [4,8,16,19,83,87,103] c49l2 ⟨[(1,encQ false ds),(4,.ref (0,4) 1 0 0),(6,.own (0,16) S.length),(7,.own (0,19) S.length),(8,.ref (0,8) 1 0 0),(9,.i s)],(4,.box [.nils]) :: (8,.box [g3P g]) :: (16,.row 3 (encTs false S)) :: (19,.row 1 (T.map PV.s)) :: g3L g,[]⟩ = some ex ∧
      ((∃ L : Objs,ex = (.ret,⟨[(4,.ref (0,4) 1 0 0),(5,.b false)],(4,.box [.nils]) :: L,[]⟩)) ∨ ∃ (S' : List Tm) (T' : List ByteArray) (g' : Gr),GrOk ds S' T' ∧ g'.length = S'.length ∧ (∀ l ∈ g',l.length ≤ 400000) ∧ ex = (.exit 0,⟨[(1,encQ false ds),(4,.ref (0,4) 1 0 0),(6,.own (0,16) S'.length),(7,.own (0,19) S'.length),(8,.ref (0,8) 1 0 0),(9,.i S'.length),(24,.b false)],(4,.box [.nils]) :: (8,.box [g3P g']) :: (16,.row 3 (encTs false S')) :: (19,.row 1 (T'.map PV.s)) :: g3L g',[]⟩))
  | k,s,S,T,g,hk,hs,hG,hg,hgl => by
    have hl1 : S.length = T.length := hG.t.symm
    have hS60 := hG.n
    by_cases hlt : s < S.length
    · obtain ⟨k,rfl⟩ : ∃ k',k = k' + 1 := ⟨k - 1,by omega⟩
      have hlt1 : (s : Int) < S.length := by omega
      obtain ⟨w1,w2⟩ := hG.w _ (List.getElem_mem hlt)
      have hst := eqSteps ds hds _ w1 w2
      have hgood := stD_good hds _ w1 w2
      have hlen := stD_len hds _ w2
      have hat : nth (encTs false S) s = some (encT false S[s]) := by simp [nth,encTs_map,hlt]
      generalize stD ds S[s] = A at hst hgood hlen
      unfold StepsAt at hst
      generalize S[s] = x at hst hat
      obtain ⟨x1,x2,x3,L3,hX,hL,hx3⟩ := encT_formF x
      rw [hX] at hst hat
      have hpS := plains_encTs S
      have hlS : (encTs false S).length = S.length := encTs_len false S
      obtain ⟨ex,h1,hr⟩ := loopGr1 (encQ false ds) (known_encQ ds) ds A hgood hlen g s A [] S T [] rfl hG rfl
      simp only [List.length_nil,List.map_nil,show ((0 : Nat) : Int) = 0 from rfl] at h1
      rcases hr with rfl | ⟨S',T',M',q1,q2,q3,rfl⟩
      · refine ⟨_, ?_,.inl ⟨g3L g,rfl⟩⟩
        generalize encTs false S = ES at *
        rw [loopI_eq]
        rcases encQ_form false ds with ⟨eD,_⟩ | ⟨FD,eD,eD1,_⟩ <;> rw [eD] at hst h1 ⊢ <;> rcases g3_two g with ⟨_,h2,h3⟩ | ⟨_,h2,h3⟩ <;> rw [h2,h3] at h1 ⊢ <;> rcases hx3 with rfl | rfl <;> simp [r49l2,b49l2,hlt,hlt1,hlS,hat,hpS,hst,h1]
      · have hS := eqSorted false M' (by omega)
        have htl := tidyL_len M'
        have hfl := fals_mvP M'
        have hw : IntKind.i64.wrap ((s : Int) + 1) = (s : Int) + 1 := wr (by omega)
        obtain ⟨ex2,hn,hr2⟩ := loopGr2 ds hds k (s + 1) S' T' (g ++ [tidyL M']) (by omega) (by omega) q1 (by simp [hg]) (fun l hl' => by
          rcases List.mem_append.1 hl' with h | h
          · exact hgl l h
          · simp only [List.mem_singleton] at h; subst h; omega)
        refine ⟨ex2, ?_,hr2⟩
        refine Eq.trans ?_ hn
        have hg9 : g.length ≤ 4294967295 := by omega
        have hgn : g3P (g ++ [tidyL M']) = .own (0,103) (g.length + 1) := by simp [g3P]
        have hgL : g3L (g ++ [tidyL M']) = [(103,.row 1 (encGs true true g ++ [encL true true (tidyL M')]))] := by simp [g3L,encGs]
        rw [hgn,hgL,show ((s + 1 : Nat) : Int) = (s : Int) + 1 by omega]
        clear hn hr2
        generalize tidyL M' = X at *
        have hns := noShares_mv X
        simp only [encL_f] at hS
        have hl2 : S'.length = T'.length := q1.t.symm
        have hlS' : (encTs false S').length = S'.length := encTs_len false S'
        generalize encTs false S' = ES' at *
        generalize encTs false S = ES at *
        rw [loopI_eq]
        rcases encQ_form false ds with ⟨eD,_⟩ | ⟨FD,eD,eD1,_⟩ <;> rw [eD] at hst h1 ⊢ <;> rcases g3_two g with ⟨h,h2,h3⟩ | ⟨h,h2,h3⟩ <;> rw [h2,h3] at h1 ⊢ <;> rcases encL_two true true X with ⟨hT,_⟩ | hT <;> rw [hT] at hS ⊢ <;> rcases hx3 with rfl | rfl <;>
          (first | subst h | skip
           simp [r49l2,b49l2,hlt,hlt1,hlS,hlS',hat,hpS,hst,h1,hl2,hS,hfl,hg9,hw,encGs_len,hns]
           try rfl)
    · have hlS : S.length = s := by omega
      refine ⟨_, ?_,.inr ⟨S,T,g,hG,by omega,hgl,rfl⟩⟩
      have hlS2 : (encTs false S).length = S.length := encTs_len false S
      generalize encTs false S = ES at *
      rw [loopI_eq]
      subst hlS
      rw [← hl1] at *
      rcases encQ_form false ds with ⟨eD,_⟩ | ⟨FD,eD,eD1,_⟩ <;> rw [eD] <;> rcases g3_two g with ⟨_,h2,h3⟩ | ⟨_,h2,h3⟩ <;> rw [h2,h3] <;> simp [r49l2,b49l2,hlS2,hl1]
end Go.Am
end
section
set_option maxRecDepth 10000
set_option maxHeartbeats 16000000
set_option linter.unusedSimpArgs false
set_option linter.unusedVariables false
namespace Go.Am
open Go.Proofs Go.Sort Go.Shelf
theorem eqGraph3 (ds : List Tm) (hds : DsOk ds) (t : Tm) (hw : WfT ds.length t) (hz : szT t ≤ 24) : ∃ (g : Gr) (ok : Bool),g.length ≤ 60 ∧ (∀ l ∈ g,l.length ≤ 400000) ∧ callI G 49 [encT false t,encQ false ds] [] = some (.tup [encG true true g,.b ok],[]) := by
  obtain ⟨b,hb,ht⟩ := eqText t hw.va (by omega)
  obtain ⟨ex,h1,hr⟩ := loopGr2 ds hds 60 0 [t] [b] [] rfl (by simp) ⟨rfl,by simp,fun x hx => by simp only [List.mem_singleton] at hx; subst hx; exact ⟨hw,hz⟩⟩ rfl (fun l hl => by cases hl)
  simp only [List.length_cons,List.length_nil,List.map_cons,List.map_nil,show ((0 : Nat) : Int) = 0 from rfl,encTs,show g3P [] = .nils from rfl,show g3L [] = [] from rfl] at h1
  obtain ⟨x1,x2,x3,L3,hX,hL,hx3⟩ := encT_formF t
  rw [hX] at ht h1 ⊢
  rcases hr with ⟨L,rfl⟩ | ⟨S',T',g',q1,q2,q3,rfl⟩
  · refine ⟨[],false,by simp,(fun l hl => by cases hl), ?_⟩
    rw [callI_eq]
    rcases encQ_form false ds with ⟨eD,_⟩ | ⟨FD,eD,eD1,_⟩ <;> rw [eD] at h1 ⊢ <;> rcases hx3 with rfl | rfl <;> simp [body1_eq _ _ (gp 49) g49,c49,a49,ht,h1]
  · refine ⟨g',true,by have := q1.n; omega,q3, ?_⟩
    rw [callI_eq]
    generalize encTs false S' = ES at *
    rcases g3_two g' with ⟨h,h2,h3⟩ | ⟨h,h2,h3⟩ <;> rw [h2,h3] at h1
    · subst h
      rcases encQ_form false ds with ⟨eD,_⟩ | ⟨FD,eD,eD1,_⟩ <;> rw [eD] at h1 ⊢ <;> rcases hx3 with rfl | rfl <;> simp [body1_eq _ _ (gp 49) g49,c49,a49,ht,h1,encGs_len]
    · have hM := encM_ne (nl := true) (u := true) h
      simp only [encG,hM]
      rcases encQ_form false ds with ⟨eD,_⟩ | ⟨FD,eD,eD1,_⟩ <;> rw [eD] at h1 ⊢ <;> rcases hx3 with rfl | rfl <;> simp [body1_eq _ _ (gp 49) g49,c49,a49,ht,h1,encGs_len]
theorem eqGraphOf (ds : List Tm) (hs : SmTs ds) (hl : ds.length ≤ 1000) (t : Tm) (ht : SmT t) : ∃ (g : Gr) (ok : Bool),g.length ≤ 60 ∧ (∀ l ∈ g,l.length ≤ 400000) ∧ callI G 32 [encT false t,encQ false ds] [] = some (.tup [encG true true g,.b ok],[]) := by
  have hA := eqAsked t ht ds hs hl
  cases hq : askedT t ds with
  | false =>
    refine ⟨[],false,by simp,(fun l hl => by cases hl), ?_⟩
    rw [hq] at hA
    obtain ⟨x1,x2,x3,L3,hX,hL,hx3⟩ := encT_formF t
    rw [hX] at hA ⊢
    rw [callI_eq]
    rcases encQ_form false ds with ⟨eD,_⟩ | ⟨FD,eD,eD1,_⟩ <;> rw [eD] at hA ⊢ <;> rcases hx3 with rfl | rfl <;> simp [body1_eq _ _ (gp 32) g32,c32,a32,hA]
  | true =>
    have hq0 := hq
    unfold askedT at hq0
    simp only [Bool.and_eq_true] at hq0
    have hds := defsOk_ds hq0.1
    have hf := hq0.2
    unfold fitsT at hf
    simp only [Bool.and_eq_true,decide_eq_true_eq] at hf
    obtain ⟨v1,v2⟩ := okT_va hf.1
    obtain ⟨g,ok,g1,g2,hg⟩ := eqGraph3 ds hds t (calls_wf _ t v1 hf.2.2) v2
    refine ⟨g,ok,g1,g2, ?_⟩
    rw [hq] at hA
    obtain ⟨x1,x2,x3,L3,hX,hL,hx3⟩ := encT_formF t
    rw [hX] at hA hg ⊢
    have hns := noShares_encGs true g
    simp only [encG] at hg ⊢
    rw [callI_eq]
    rcases encQ_form false ds with ⟨eD,_⟩ | ⟨FD,eD,eD1,_⟩ <;> rw [eD] at hA hg ⊢ <;> rcases encM_two true true g with ⟨e,_⟩ | e <;> rw [e] at hg ⊢ <;> rcases hx3 with rfl | rfl <;> simp [body1_eq _ _ (gp 32) g32,c32,a32,hA,hg,encGs_len]
end Go.Am
end
section
set_option maxRecDepth 10000
set_option maxHeartbeats 16000000
set_option linter.unusedSimpArgs false
set_option linter.unusedVariables false
namespace Go.Am
open Go.Proofs Go.Sort Go.Shelf
mutual
theorem DrT.sm : ∀ t : Tm,DrT t → SmT t
  | .mk o n ps,h => by
    unfold DrT at h
    unfold SmT
    exact ⟨by omega,by omega,by omega,DrTs.sm ps h.2.2.2⟩
theorem DrTs.sm : ∀ ps : List Tm,DrTs ps → SmTs ps
  | [],_ => by unfold SmTs; trivial
  | p :: ps,h => by
    unfold DrTs at h
    unfold SmTs
    exact ⟨DrT.sm p h.1,DrTs.sm ps h.2⟩
end
theorem SmTs.app : ∀ {a b : List Tm},SmTs a → SmTs b → SmTs (a ++ b)
  | [],b,_,h => h
  | p :: a,b,h,k => by
    unfold SmTs at h
    show SmTs (p :: (a ++ b))
    unfold SmTs
    exact ⟨h.1,SmTs.app h.2 k⟩
theorem eqTermD (o : Stack) (id : Id) (hid : id.1 < o.length) (B : List Nat) (p : Int) (c : Nat) (hr : RdrOK B p) (hc : c ≤ 3) (hp : p + 1000 ≤ 1000000000) :
    ∃ t q,p ≤ q ∧ q ≤ p + 1000 ∧ SmT t ∧ callI H 46 [.ref id 1 0 0,.i c] (setS o id (rd B p)) = some (encT true t,setS o id (rd B q)) := by
  have hne2 : ¬ id.1 = o.length := by omega
  have dcv : dcT 1 = 30 ∧ dcT 2 = 70 ∧ dcT 3 = 150 ∧ dcT 4 = 310 := by decide
  obtain ⟨k,a1,a2,c1⟩ := pickF o id hid B p 4 hr (by omega) (by omega)
  have hw : IntKind.i64.wrap (1 + k) = 1 + k := wrD (by omega)
  have good : ∃ t q',p + 1 ≤ q' ∧ q' ≤ p + 1 + 310 ∧ DrT t ∧ callI H 59 [.ref id 1 0 0,.i (1 + k),.i c,.b false] (setS o id (rd B (p + 1)) ++ [[]]) = some (encT true t,setS o id (rd B q') ++ [[]]) := by
    have hd : k = 0 ∨ k = 1 ∨ k = 2 ∨ k = 3 := by omega
    rcases hd with rfl | rfl | rfl | rfl
    · obtain ⟨t,q',e1,e2,e3,e4⟩ := goodF 1 o id hid B (p + 1) c false (hr.next (by omega) (by omega)) (by omega) hc (by omega)
      exact ⟨t,q',e1,by omega,e3,e4⟩
    · obtain ⟨t,q',e1,e2,e3,e4⟩ := goodF 2 o id hid B (p + 1) c false (hr.next (by omega) (by omega)) (by omega) hc (by omega)
      exact ⟨t,q',e1,by omega,e3,e4⟩
    · obtain ⟨t,q',e1,e2,e3,e4⟩ := goodF 3 o id hid B (p + 1) c false (hr.next (by omega) (by omega)) (by omega) hc (by omega)
      exact ⟨t,q',e1,by omega,e3,e4⟩
    · obtain ⟨t,q',e1,e2,e3,e4⟩ := goodF 4 o id hid B (p + 1) c false (hr.next (by omega) (by omega)) (by omega) hc (by omega)
      exact ⟨t,q',e1,by omega,e3,e4⟩
  obtain ⟨t,q,e1,e2,e3,e4⟩ := good
  obtain ⟨k2,b1,b2,c2⟩ := pickF o id hid B q 24 (hr.next (by omega) (by omega)) (by omega) (by omega)
  obtain ⟨to,tn,tp,rfl,ht⟩ := encT_two t
  have hsm := DrT.sm _ e3
  unfold SmT at hsm
  have h3 := e3
  unfold DrT at h3
  have hw7 : IntKind.i64.wrap (tn + 7) = tn + 7 := wrD (by omega)
  by_cases k20 : k2 = 0
  · subst k20
    refine ⟨.mk to (tn + 7) tp,q + 1,by omega,by omega,by unfold SmT; exact ⟨by omega,by omega,hsm.2.2⟩, ?_⟩
    rw [callI_eq]
    rcases ht with ⟨rfl,ht⟩ | ⟨ht,hE⟩ <;> rw [ht] at e4
    · simp [body1_eq _ _ (gpH 46) g46,c46,a46,hne2,setS_len,c1,hw,e4,c2,hw7,encT,encQ]
    · simp [body1_eq _ _ (gpH 46) g46,c46,a46,hne2,setS_len,c1,hw,e4,c2,hw7,encT,hE,encTs_len]
  by_cases k21 : k2 = 1
  · subst k21
    obtain ⟨k3,d1,d2,c3⟩ := pickF o id hid B (q + 1) 8 (hr.next (by omega) (by omega)) (by omega) (by omega)
    refine ⟨.mk k3 tn tp,q + 1 + 1,by omega,by omega,by unfold SmT; exact ⟨by omega,by omega,hsm.2.2⟩, ?_⟩
    rw [callI_eq]
    rcases ht with ⟨rfl,ht⟩ | ⟨ht,hE⟩ <;> rw [ht] at e4
    · simp [body1_eq _ _ (gpH 46) g46,c46,a46,hne2,setS_len,c1,hw,e4,c2,c3,encT,encQ]
    · simp [body1_eq _ _ (gpH 46) g46,c46,a46,hne2,setS_len,c1,hw,e4,c2,c3,encT,hE,encTs_len]
  by_cases k22 : k2 = 2
  · subst k22
    refine ⟨.mk to tn (.mk 0 0 [] :: tp),q + 1,by omega,by omega,by unfold SmT SmTs; exact ⟨by omega,by omega,by simp; omega,by unfold SmT SmTs; simp,hsm.2.2.2⟩, ?_⟩
    have hl : tp.length ≤ 2 := h3.2.2.1
    have hl9 : tp.length ≤ 4294967295 := by omega
    rw [callI_eq]
    rcases ht with ⟨rfl,ht⟩ | ⟨ht,hE⟩ <;> rw [ht] at e4
    · simp [body1_eq _ _ (gpH 46) g46,c46,a46,hne2,setS_len,c1,hw,e4,c2,encT,encQ,encTs]
    · simp [body1_eq _ _ (gpH 46) g46,c46,a46,hne2,setS_len,c1,hw,e4,c2,encT,encQ,encTs_len,hl9,Nat.add_comm]
  · refine ⟨.mk to tn tp,q + 1,by omega,by omega,by unfold SmT; exact hsm, ?_⟩
    rw [callI_eq]
    rcases ht with ⟨rfl,ht⟩ | ⟨ht,hE⟩ <;> rw [ht] at e4
    · simp [body1_eq _ _ (gpH 46) g46,c46,a46,hne2,setS_len,c1,hw,e4,c2,k20,k21,k22,encT,encQ]
    · simp [body1_eq _ _ (gpH 46) g46,c46,a46,hne2,setS_len,c1,hw,e4,c2,k20,k21,k22,encT,hE,encTs_len]
theorem termF (o : Stack) (id : Id) (hid : id.1 < o.length) (B : List Nat) (p : Int) (c : Nat) (hr : RdrOK B p) (hc : c ≤ 3) (hp : p + 1000 ≤ 1000000000) :
    ∃ t q,p ≤ q ∧ q ≤ p + 1000 ∧ SmT t ∧ callI H 46 [.ref id 1 0 0,.i c] (setS o id (rd B p) ++ [[]]) = some (encT true t,setS o id (rd B q) ++ [[]]) := by
  obtain ⟨t,q,e1,e2,e3,e4⟩ := eqTermD (o ++ [[]]) id (hidA hid) B p c hr hc hp
  exact ⟨t,q,e1,e2,e3,frC hid e4⟩
def dfP (n : Nat) (ds : List Tm) : PV := if ds = [] then .nils else .own (n,22) ds.length
def dfL (ds : List Tm) : Objs := if ds = [] then [] else [(22,.row 3 (encTs true ds))]
theorem df_two (n : Nat) (ds : List Tm) : (ds = [] ∧ dfP n ds = .nils ∧ dfL ds = []) ∨ (ds ≠ [] ∧ dfP n ds = .own (n,22) ds.length ∧ dfL ds = [(22,.row 3 (encTs true ds))]) := by
  by_cases h : ds = []
  · exact .inl ⟨h,by simp [dfP,h],by simp [dfL,h]⟩
  · exact .inr ⟨h,by simp [dfP,h],by simp [dfL,h]⟩
theorem encTs_snocT (u : Bool) (S : List Tm) (x : Tm) : encTs u (S ++ [x]) = encTs u S ++ [encT u x] := by simp [encTs_map]
theorem loopDf (o : Stack) (id : Id) (hid : id.1 < o.length) (B : List Nat) (N : Nat) (hN : N ≤ 3) : ∀ (k s : Nat) (p : Int) (ds : List Tm),s + k = N → ds.length = s → SmTs ds → RdrOK B p → p + 400 * k ≤ 1000000000 →
    ∃ (ds' : List Tm) (q : Int),p ≤ q ∧ q ≤ p + 400 * k ∧ ds'.length = N ∧ SmTs ds' ∧
      loopI H [0,3,4,5] [8,22] c57l0 ⟨[(0,.ref id 1 0 0),(3,.i N),(4,dfP o.length ds),(5,.i s)],dfL ds,setS o id (rd B p)⟩ =
        some (.exit 0,⟨[(0,.ref id 1 0 0),(3,.i N),(4,dfP o.length ds'),(5,.i N),(11,.b false)],dfL ds',setS o id (rd B q)⟩)
  | 0,s,p,ds,hs,hg,hl,hr,hp => by
    have : s = N := by omega
    subst this
    refine ⟨ds,p,by omega,by omega,hg,hl, ?_⟩
    have hne2 : ¬ id.1 = o.length := by omega
    rw [loopI_eq]
    rcases df_two o.length ds with ⟨h,h1,h2⟩ | ⟨h,h1,h2⟩ <;> rw [h1,h2] <;>
      simp [r57l0,b57l0,setS_len,hne2]
  | k + 1,s,p,ds,hs,hg,hl,hr,hp => by
    have hne2 : ¬ id.1 = o.length := by omega
    have dcv : dcT 1 = 30 ∧ dcT 2 = 70 ∧ dcT 3 = 150 ∧ dcT 4 = 310 := by decide
    have hkk : ((k + 1 : Nat) : Int) = (k : Int) + 1 := by omega
    rw [hkk] at hp ⊢
    have hlt : (s : Int) < N := by omega
    have hlt2 : s < N := by omega
    have hw : IntKind.i64.wrap ((s : Int) + 1) = (s : Int) + 1 := wrD (by omega)
    obtain ⟨a,a1,a2,ca⟩ := pickF o id hid B p 3 hr (by omega) (by omega)
    have hwa : IntKind.i64.wrap (1 + a) = 1 + a := wrD (by omega)
    have good : ∃ t q',p + 1 ≤ q' ∧ q' ≤ p + 1 + 310 ∧ DrT t ∧ callI H 59 [.ref id 1 0 0,.i (1 + a),.i N,.b false] (setS o id (rd B (p + 1)) ++ [[]]) = some (encT true t,setS o id (rd B q') ++ [[]]) := by
      have hd : a = 0 ∨ a = 1 ∨ a = 2 := by omega
      rcases hd with rfl | rfl | rfl
      · obtain ⟨t,q',e1,e2,e3,e4⟩ := goodF 1 o id hid B (p + 1) N false (hr.next (by omega) (by omega)) (by omega) hN (by omega)
        exact ⟨t,q',e1,by omega,e3,e4⟩
      · obtain ⟨t,q',e1,e2,e3,e4⟩ := goodF 2 o id hid B (p + 1) N false (hr.next (by omega) (by omega)) (by omega) hN (by omega)
        exact ⟨t,q',e1,by omega,e3,e4⟩
      · obtain ⟨t,q',e1,e2,e3,e4⟩ := goodF 3 o id hid B (p + 1) N false (hr.next (by omega) (by omega)) (by omega) hN (by omega)
        exact ⟨t,q',e1,by omega,e3,e4⟩
    obtain ⟨t,q1,e1,e2,e3,e4⟩ := good
    have hsm := DrT.sm t e3
    obtain ⟨ds',q,f1,f2,f3,f4,hn⟩ := loopDf o id hid B N hN k (s + 1) q1 (ds ++ [t]) (by omega) (by simp [hg]) (SmTs.app hl (by unfold SmTs SmTs; exact ⟨hsm,trivial⟩)) (hr.next (by omega) (by omega)) (by omega)
    refine ⟨ds',q,by omega,by omega,f3,f4, ?_⟩
    refine Eq.trans ?_ hn
    have hss : ((s + 1 : Nat) : Int) = (s : Int) + 1 := by omega
    have hd9 : ds.length ≤ 4294967295 := by omega
    have hgn : dfP o.length (ds ++ [t]) = .own (o.length,22) (ds.length + 1) := by simp [dfP]
    have hgl : dfL (ds ++ [t]) = [(22,.row 3 (encTs true ds ++ [encT true t]))] := by simp [dfL,encTs_snocT]
    rw [hss,hgn,hgl]
    clear hn hss
    rw [loopI_eq]
    obtain ⟨to,tn,tp,rfl,ht⟩ := encT_two t
    rcases df_two o.length ds with ⟨h,h1,h2⟩ | ⟨h,h1,h2⟩ <;> rw [h1,h2] <;> rcases ht with ⟨rfl,ht⟩ | ⟨ht,hE⟩ <;> rw [ht] at e4 ⊢ <;>
      (first | subst h | skip
       simp [r57l0,b57l0,setS_len,hne2,hlt,hlt2,hw,ca,hwa,e4,hd9,encTs_len,encTs]
       try rfl)
theorem SmTs.set : ∀ {ds : List Tm} {x : Tm} (i : Nat),SmTs ds → SmT x → SmTs (ds.set i x)
  | [],x,i,h,k => by simpa using h
  | p :: ps,x,0,h,k => by
    unfold SmTs at h
    show SmTs (x :: ps)
    unfold SmTs
    exact ⟨k,h.2⟩
  | p :: ps,x,i + 1,h,k => by
    unfold SmTs at h
    show SmTs (p :: ps.set i x)
    unfold SmTs
    exact ⟨h.1,SmTs.set i h.2 k⟩
theorem encTs_set (u : Bool) (ds : List Tm) (i : Nat) (x : Tm) : (encTs u ds).set i (encT u x) = encTs u (ds.set i x) := by simp [encTs_map,List.map_set]
theorem eqDefs (o : Stack) (id : Id) (hid : id.1 < o.length) (B : List Nat) (p : Int) (hr : RdrOK B p) (hp : p + 2000 ≤ 1000000000) :
    ∃ ds q,p ≤ q ∧ q ≤ p + 2000 ∧ SmTs ds ∧ ds.length ≤ 3 ∧ callI H 57 [.ref id 1 0 0] (setS o id (rd B p)) = some (encQ true ds,setS o id (rd B q)) := by
  have hne2 : ¬ id.1 = o.length := by omega
  obtain ⟨n,a1,a2,c1⟩ := pickF o id hid B p 4 hr (by omega) (by omega)
  obtain ⟨N,hN⟩ : ∃ N : Nat,(N : Int) = n := ⟨n.toNat,by omega⟩
  subst hN
  obtain ⟨ds,q,f1,f2,f3,f4,hl⟩ := loopDf o id hid B N (by omega) N 0 (p + 1) [] (by omega) rfl (by unfold SmTs; trivial) (hr.next (by omega) (by omega)) (by omega)
  simp only [show dfP o.length [] = .nils from rfl,show dfL [] = [] from rfl,show ((0 : Nat) : Int) = 0 from rfl] at hl
  obtain ⟨k,b1,b2,c2⟩ := pickF o id hid B q 20 (hr.next (by omega) (by omega)) (by omega) (by omega)
  by_cases hN0 : N = 0
  · subst hN0
    obtain rfl : ds = [] := List.length_eq_zero_iff.1 f3
    refine ⟨[],q,by omega,by omega,f4,by simp, ?_⟩
    simp only [show dfP o.length [] = .nils from rfl,show dfL [] = [] from rfl,show ((0 : Nat) : Int) = 0 from rfl] at hl c1
    rw [callI_eq]
    simp [body1_eq _ _ (gpH 57) g57,c57,a57,hne2,setS_len,c1,hl,encQ]
  · have hpos : (0 : Int) < N := by omega
    have hpos2 : 0 < N := by omega
    have hne : ds ≠ [] := by intro e; subst e; simp at f3; omega
    rcases df_two o.length ds with ⟨h,h1,h2⟩ | ⟨h,h1,h2⟩
    · exact absurd h hne
    rw [h1,h2] at hl
    by_cases k0 : k = 0
    · subst k0
      obtain ⟨j,d1,d2,c3⟩ := pickF o id hid B (q + 1) N (hr.next (by omega) (by omega)) (by omega) (by omega)
      have hw : IntKind.i64.wrap ((N : Int) + 1) = (N : Int) + 1 := wrD (by omega)
      obtain ⟨m,m1,m2,c4⟩ := pickF o id hid B (q + 1 + 1) (N + 1) (hr.next (by omega) (by omega)) (by omega) (by omega)
      refine ⟨ds.set j.toNat (.mk 5 m []),q + 1 + 1 + 1,by omega,by omega,SmTs.set _ f4 (by unfold SmT SmTs; exact ⟨by omega,by omega,by simp,trivial⟩),by simp; omega, ?_⟩
      have hne' : ds.set j.toNat (.mk 5 m []) ≠ [] := by simpa using hne
      rw [encQ_c true hne',← encTs_set]
      have hlt : j.toNat < ds.length := by omega
      have hlt2 : j < ds.length := by omega
      obtain ⟨x1,x2,x3,hX,hx3⟩ := encT_form true ds[j.toNat]
      have hat : nth (encTs true ds) j.toNat = some (.agg [.i x1,.i x2,x3]) := by rw [← hX]; simp [nth,encTs_map,hlt]
      have hln := encTs_len true ds
      generalize encTs true ds = E at *
      subst f3
      rw [callI_eq]
      rcases hx3 with rfl | ⟨L,rfl⟩ <;> simp [body1_eq _ _ (gpH 57) g57,c57,a57,hne2,setS_len,c1,hl,hpos,hpos2,c2,c3,c4,hw,hln,hlt,hlt2,d1,hat,encT,encQ,unAgg]
    · refine ⟨ds,q + 1,by omega,by omega,f4,by omega, ?_⟩
      rw [encQ_c true hne]
      subst f3
      rw [callI_eq]
      simp [body1_eq _ _ (gpH 57) g57,c57,a57,hne2,setS_len,c1,hl,hpos,hpos2,c2,k0,encTs_len]
theorem defsF (o : Stack) (id : Id) (hid : id.1 < o.length) (B : List Nat) (p : Int) (hr : RdrOK B p) (hp : p + 2000 ≤ 1000000000) :
    ∃ ds q,p ≤ q ∧ q ≤ p + 2000 ∧ SmTs ds ∧ ds.length ≤ 3 ∧ callI H 57 [.ref id 1 0 0] (setS o id (rd B p) ++ [[]]) = some (encQ true ds,setS o id (rd B q) ++ [[]]) := by
  obtain ⟨t,q,e1,e2,e3,e4,e5⟩ := eqDefs (o ++ [[]]) id (hidA hid) B p hr hp
  exact ⟨t,q,e1,e2,e3,e4,frC hid e5⟩
end Go.Am
end
section
set_option maxRecDepth 10000
set_option maxHeartbeats 16000000
set_option linter.unusedSimpArgs false
set_option linter.unusedVariables false
namespace Go.Am
open Go.Proofs Go.Sort Go.Shelf
theorem tidyL_le (l : List Mv) : (tidyL l).length ≤ l.length := by
  have h : (srtM l).length = l.length := by simp [srtM]
  unfold tidyL
  cases hs : srtM l with
  | nil => simp [dd]
  | cons x r =>
    rw [hs] at h
    have := ddup_len x r
    simp only [dd,List.length_cons] at h ⊢
    omega
theorem loopWi1 (o : Stack) (id : Id) (hid : id.1 < o.length) (B : List Nat) (N : Nat) (few : Bool) (hN : 1 ≤ N) (hN2 : N ≤ 100) : ∀ (k s : Nat) (p : Int) (g : Gr),s + k = N → g.length = s → (∀ l ∈ g,l.length ≤ 3) → RdrOK B p → p + 13 * k ≤ 1000000000 →
    ∃ (g' : Gr) (q : Int),p ≤ q ∧ q ≤ p + 13 * k ∧ g'.length = N ∧ (∀ l ∈ g',l.length ≤ 3) ∧
      loopI H [0,4,5,6,7,8] [4,5,51] c45l1 ⟨[(0,.ref id 1 0 0),(4,.ref (o.length,4) 1 0 0),(5,.ref (o.length,5) 1 0 0),(6,.i N),(7,.b few),(8,.i s)],(4,.box [.nils]) :: (5,.box [gwP o.length g]) :: gwL g,setS o id (rd B p)⟩ =
        some (.exit 0,⟨[(0,.ref id 1 0 0),(4,.ref (o.length,4) 1 0 0),(5,.ref (o.length,5) 1 0 0),(6,.i N),(7,.b few),(8,.i N),(22,.b false)],(4,.box [.nils]) :: (5,.box [gwP o.length g']) :: gwL g',setS o id (rd B q)⟩)
  | 0,s,p,g,hs,hg,hl,hr,hp => by
    have : s = N := by omega
    subst this
    refine ⟨g,p,by omega,by omega,hg,hl, ?_⟩
    have hne2 : ¬ id.1 = o.length := by omega
    rw [loopI_eq]
    rcases gw_two o.length g with ⟨h,h1,h2⟩ | ⟨h,h1,h2⟩ <;> rw [h1,h2] <;>
      simp [r45l1,b45l1,setS_len,hne2]
  | k + 1,s,p,g,hs,hg,hl,hr,hp => by
    have hne2 : ¬ id.1 = o.length := by omega
    have hkk : ((k + 1 : Nat) : Int) = (k : Int) + 1 := by omega
    rw [hkk] at hp ⊢
    have hlt : (s : Int) < N := by omega
    have hw : IntKind.i64.wrap ((s : Int) + 1) = (s : Int) + 1 := wrD (by omega)
    obtain ⟨a,a1,a2,ca⟩ := pickF o id hid B p 4 hr (by omega) (by omega)
    have haN : ((a.toNat : Nat) : Int) = a := by omega
    obtain ⟨l',q1,e1,e2,e3,hi⟩ := loopWi0 o id hid B N s few g (by omega) (by omega) a.toNat (p + 1) [] (hr.next (by omega) (by omega)) (by omega) (by simp; omega)
    rw [haN] at hi e2
    simp only [List.map_nil,List.length_nil] at hi e3
    have hS := hSorted l' (by omega)
    have htl := tidyL_le l'
    have hfl := fals_mvP l'
    obtain ⟨g',q,f1,f2,f3,f4,hn⟩ := loopWi1 o id hid B N few hN hN2 k (s + 1) q1 (g ++ [tidyL l']) (by omega) (by simp [hg]) (fun l hl' => by
      rcases List.mem_append.1 hl' with h | h
      · exact hl l h
      · simp at h; subst h; omega) (hr.next (by omega) (by omega)) (by omega)
    refine ⟨g',q,by omega,by omega,f3,f4, ?_⟩
    refine Eq.trans ?_ hn
    have hss : ((s + 1 : Nat) : Int) = (s : Int) + 1 := by omega
    rw [hss]
    have hg9 : g.length ≤ 4294967295 := by omega
    have hgn : gwP o.length (g ++ [tidyL l']) = .own (o.length,51) (g.length + 1) := by simp [gwP]
    have hgl : gwL (g ++ [tidyL l']) = [(51,.row 1 (encGs true true g ++ [encL true true (tidyL l')]))] := by simp [gwL,encGs]
    rw [hgn,hgl]
    clear hn hss
    generalize tidyL l' = T at *
    rw [loopI_eq]
    rcases gw_two o.length g with ⟨h,h1,h2⟩ | ⟨h,h1,h2⟩ <;> rw [h1,h2] at hi ⊢ <;> rcases encL_two true true T with ⟨hT,_⟩ | hT <;> rw [hT] at hS ⊢ <;>
      (first | subst h | skip
       simp [r45l1,b45l1,setS_len,hne2,hlt,hw,ca,hi,hS,hfl,hg9,encGs_len,noShares_mv]
       try rfl)
end Go.Am
end
section
set_option maxRecDepth 10000
set_option maxHeartbeats 16000000
set_option linter.unusedSimpArgs false
set_option linter.unusedVariables false
namespace Go.Am
open Go.Proofs Go.Sort Go.Shelf
def TinyG (g : Gr) : Prop := g.length ≤ 100 ∧ ∀ l ∈ g,l.length ≤ 100
theorem TinyG.small {g : Gr} (h : TinyG g) : SmallG g := ⟨by have := h.1; omega,fun l hl => by have := h.2 l hl; omega⟩
theorem eqWild (o : Stack) (id : Id) (hid : id.1 < o.length) (B : List Nat) (p : Int) (most : Nat) (hm : 1 ≤ most) (hm2 : most ≤ 90) (hr : RdrOK B p) (hp : p + 2000 ≤ 1000000000) :
    ∃ g q,p ≤ q ∧ q ≤ p + 2000 ∧ TinyG g ∧ callI H 45 [.ref id 1 0 0,.i most] (setS o id (rd B p)) = some (encG true true g,setS o id (rd B q)) := by
  have hne2 : ¬ id.1 = o.length := by omega
  obtain ⟨k1,a1,a2,c1⟩ := pickF o id hid B p most hr (by omega) (by omega)
  obtain ⟨k2,b1,b2,c2⟩ := pickF o id hid B (p + 1) 2 (hr.next (by omega) (by omega)) (by omega) (by omega)
  have hw : IntKind.i64.wrap (1 + k1) = 1 + k1 := wrD (by omega)
  obtain ⟨N,hN⟩ : ∃ N : Nat,(N : Int) = 1 + k1 := ⟨(1 + k1).toNat,by omega⟩
  have hN1 : 1 ≤ N := by omega
  have hN2 : N ≤ 100 := by omega
  obtain ⟨g,q1,e1,e2,e3,e4,hl⟩ := loopWi1 o id hid B N (decide (k2 = 0)) hN1 hN2 N 0 (p + 1 + 1) [] (by omega) rfl (by simp) (hr.next (by omega) (by omega)) (by omega)
  obtain ⟨k3,d1,d2,c3⟩ := pickF o id hid B q1 30 (hr.next (by omega) (by omega)) (by omega) (by omega)
  simp only [show ((0 : Nat) : Int) = 0 from rfl,hN,show gwP o.length [] = .nils from rfl,show gwL [] = [] from rfl] at hl
  obtain ⟨r0,g,rfl⟩ : ∃ r0 r,g = r0 :: r := by
    cases g with
    | nil => simp at e3; omega
    | cons r0 r => exact ⟨r0,r,rfl⟩
  have h1 : gwP o.length (r0 :: g) = .own (o.length,51) (g.length + 1) := by simp [gwP]
  have h2 : gwL (r0 :: g) = [(51,.row 1 (encL true true r0 :: encGs true true g))] := by simp [gwL,encGs]
  rw [h1,h2] at hl
  have e30 := e4 r0 List.mem_cons_self
  have hns := noShares_mv r0
  by_cases k30 : k3 = 0
  · subst k30
    refine ⟨(r0 ++ [(9,0)]) :: g,q1 + 1,by omega,by omega,⟨by simp at e3 ⊢; omega,fun l hl' => ?_⟩, ?_⟩
    · rcases List.mem_cons.1 hl' with rfl | h
      · simp; omega
      · have := e4 l (List.mem_cons_of_mem _ h); omega
    · rw [callI_eq]
      rcases encL_two true true r0 with ⟨hT,h0⟩ | hT
      · subst h0
        rw [hT] at hl
        simp [body1_eq _ _ (gpH 45) g45,c45,a45,setS_len,hne2,c1,c2,hw,hl,c3,encGs_len,unAgg,mvP]
      · have hr9 : r0.length ≤ 4294967295 := by omega
        rw [hT] at hl
        simp [body1_eq _ _ (gpH 45) g45,c45,a45,setS_len,hne2,c1,c2,hw,hl,c3,encGs_len,unAgg,hr9,encL_ne,mvP]
  by_cases k31 : k3 = 1
  · subst k31
    refine ⟨(r0 ++ [(0,1 + k1)]) :: g,q1 + 1,by omega,by omega,⟨by simp at e3 ⊢; omega,fun l hl' => ?_⟩, ?_⟩
    · rcases List.mem_cons.1 hl' with rfl | h
      · simp; omega
      · have := e4 l (List.mem_cons_of_mem _ h); omega
    · rw [callI_eq]
      rcases encL_two true true r0 with ⟨hT,h0⟩ | hT
      · subst h0
        rw [hT] at hl
        simp [body1_eq _ _ (gpH 45) g45,c45,a45,setS_len,hne2,c1,c2,hw,hl,c3,encGs_len,unAgg,mvP]
      · have hr9 : r0.length ≤ 4294967295 := by omega
        rw [hT] at hl
        simp [body1_eq _ _ (gpH 45) g45,c45,a45,setS_len,hne2,c1,c2,hw,hl,c3,encGs_len,unAgg,hr9,encL_ne,mvP]
  by_cases k32 : k3 = 2
  · subst k32
    refine ⟨[],q1 + 1,by omega,by omega,⟨by simp,by simp⟩, ?_⟩
    rw [callI_eq]
    simp [body1_eq _ _ (gpH 45) g45,c45,a45,setS_len,hne2,c1,c2,hw,hl,c3]
  · refine ⟨r0 :: g,q1 + 1,by omega,by omega,⟨by omega,fun l hl' => by have := e4 l hl'; omega⟩, ?_⟩
    rw [callI_eq]
    simp [body1_eq _ _ (gpH 45) g45,c45,a45,setS_len,hne2,c1,c2,hw,hl,c3,k30,k31,k32,encGs_len]
theorem wildF (o : Stack) (id : Id) (hid : id.1 < o.length) (B : List Nat) (p : Int) (most : Nat) (hm : 1 ≤ most) (hm2 : most ≤ 90) (hr : RdrOK B p) (hp : p + 2000 ≤ 1000000000) :
    ∃ g q,p ≤ q ∧ q ≤ p + 2000 ∧ TinyG g ∧ callI H 45 [.ref id 1 0 0,.i most] (setS o id (rd B p) ++ [[]]) = some (encG true true g,setS o id (rd B q) ++ [[]]) := by
  obtain ⟨g,q,h1,h2,h3,h4⟩ := eqWild (o ++ [[]]) id (hidA hid) B p most hm hm2 hr hp
  exact ⟨g,q,h1,h2,h3,frC hid h4⟩
end Go.Am
end
