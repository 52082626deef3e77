/- What the functions that the law reaches compute. -/
import Derived.Test.YtopipkiebngakaaEqG
import Derived.Test.YtopipkiebngakaaEqF
import Derived.Test.YtopipkiebngakaaEqD
section
set_option maxRecDepth 10000
set_option maxHeartbeats 1000000
set_option linter.unusedSimpArgs false
set_option linter.unusedVariables false
namespace Go.Am
open Go.Proofs Go.Sort Go.Shelf
theorem stops_fix (g : Gr) : ∀ (f : Nat) (cl : List Int),Stops g f cl → nextC (itC g f cl) g = itC g f cl
  | 0,_,h => h.elim
  | f + 1,cl,h => by
    by_cases e : nextC cl g = cl
    · rw [itC_fix g e]; exact e
    · have h2 : Stops g f (nextC cl g) := h.resolve_left e
      exact stops_fix g f (nextC cl g) h2
theorem clsG_fix (g : Gr) : nextC (clsG g) g = clsG g := stops_fix g _ _ (stops0 g)
theorem cls_alk (g : Gr) {s t : Nat} (hs : s < g.length) (ht : t < g.length) (h : (clsG g).getD s 0 = (clsG g).getD t 0) : ∀ m ∈ g.getD s [],∃ k ∈ g.getD t [],k.1 = m.1 ∧ clAt (clsG g) k.2 = clAt (clsG g) m.2 := by
  have e := clsG_fix g
  have h1 : (nextC (clsG g) g).getD s 0 = (nextC (clsG g) g).getD t 0 := by rw [e]; exact h
  rw [nextC_at hs,nextC_at ht] at h1
  have h2 : nxt (clsG g) g s = nxt (clsG g) g t := by omega
  exact (alk_cov.1 (nxt_eq.1 h2)).2.1
theorem shL_mem {k : Int} {l : List Mv} {z : Mv} : z ∈ shL k l ↔ ∃ m ∈ l,z = (m.1,m.2 + k) := by
  unfold shL
  rw [List.mem_map]
  constructor
  · rintro ⟨m,hm,rfl⟩; exact ⟨m,hm,rfl⟩
  · rintro ⟨m,hm,rfl⟩; exact ⟨m,hm,rfl⟩
theorem both_own {e g : Gr} (he : OkTo e) (hg : OkTo g) {s t : Nat} (hs : s < g.length) (ht : t < g.length) (h : (clsG (bothG e g)).getD (e.length + s) 0 = (clsG (bothG e g)).getD (e.length + t) 0) : (clsG g).getD s 0 = (clsG g).getD t 0 := by
  have half : ∀ s t : Nat,s < g.length → t < g.length → (clsG (bothG e g)).getD (e.length + s) 0 = (clsG (bothG e g)).getD (e.length + t) 0 → ∀ m ∈ g.getD s [],∃ k ∈ g.getD t [],k.1 = m.1 ∧ (m.2.toNat < g.length ∧ k.2.toNat < g.length ∧ (clsG (bothG e g)).getD (e.length + m.2.toNat) 0 = (clsG (bothG e g)).getD (e.length + k.2.toNat) 0) := by
    intro s t hs ht h m hm
    have hmb := hg.row s m hm
    obtain ⟨k,hk,e1,e2⟩ := cls_alk (bothG e g) (by rw [both_len]; omega) (by rw [both_len]; omega) h (m.1,m.2 + e.length) (by rw [both_row2]; exact shL_mem.2 ⟨m,hm,rfl⟩)
    rw [both_row2] at hk
    obtain ⟨k',hk',rfl⟩ := shL_mem.1 hk
    have hkb := hg.row t k' hk'
    refine ⟨k',hk',e1,by omega,by omega, ?_⟩
    unfold clAt at e2
    rw [show (k'.2 + (e.length : Int)).toNat = e.length + k'.2.toNat by omega,show (m.2 + (e.length : Int)).toNat = e.length + m.2.toNat by omega] at e2
    exact e2.symm
  refine bis_cls (F := g) (B := fun s t => s < g.length ∧ t < g.length ∧ (clsG (bothG e g)).getD (e.length + s) 0 = (clsG (bothG e g)).getD (e.length + t) 0) (fun s t hb => ?_) ⟨hs,ht,h⟩
  obtain ⟨h1,h2,h3⟩ := hb
  refine ⟨h1,h2,fun m hm => half s t h1 h2 h3 m hm,fun k hk => ?_⟩
  obtain ⟨m,hm,e1,e2,e3,e4⟩ := half t s h2 h1 h3.symm k hk
  exact ⟨m,hm,e1,e3,e2,e4.symm⟩
theorem solN_iff (cl st : List Int) (eqs g : Gr) : ∀ (n k : Nat),solN cl st eqs g n k = true ↔ ∀ i,k ≤ i → i < k + n → solK cl st eqs g i = true
  | 0,k => by
    simp only [solN,true_iff]
    intro i h1 h2; omega
  | n + 1,k => by
    simp only [solN,Bool.and_eq_true,solN_iff cl st eqs g n (k + 1)]
    constructor
    · rintro ⟨h1,h2⟩ i h3 h4
      by_cases e : i = k
      · rw [e]; exact h1
      · exact h2 i (by omega) (by omega)
    · intro h
      exact ⟨h k (by omega) (by omega),fun i h1 h2 => h i (by omega) (by omega)⟩
theorem solA_iff {cl st : List Int} {GK L : List Mv} : solA cl st GK L = true ↔ ∀ m ∈ L,∃ n ∈ GK,m.1 = n.1 ∧ clAt cl (clAt st m.2) = clAt cl n.2 := by
  simp [solA,meet,List.all_eq_true,List.any_eq_true]
theorem solB_iff {cl st : List Int} {GK L : List Mv} : solB cl st L GK = true ↔ ∀ n ∈ GK,∃ m ∈ L,m.1 = n.1 ∧ clAt cl (clAt st m.2) = clAt cl n.2 := by
  simp [solB,meet,List.all_eq_true,List.any_eq_true]
theorem coll_get {f : Nat → Option Int} : ∀ (n k : Nat) {l : List Int},coll f n k = some l → ∀ i,i < n → f (k + i) = some (l.getD i 0)
  | 0,_,_,_,i,hi => by omega
  | n + 1,k,l,h,i,hi => by
    simp only [coll] at h
    split at h
    · cases h
    · rename_i v hv
      split at h
      · cases h
      · rename_i l' h2
        simp only [Option.some.injEq] at h
        subst h
        cases i with
        | zero => simpa using hv
        | succ i =>
          have := coll_get n (k + 1) h2 i (by omega)
          rw [show k + (i + 1) = k + 1 + i by omega,this]
          simp
theorem coll_all {f : Nat → Option Int} : ∀ (n k : Nat),(∀ i,k ≤ i → i < k + n → (f i).isSome = true) → (coll f n k).isSome = true
  | 0,_,_ => rfl
  | n + 1,k,h => by
    simp only [coll]
    have h1 := h k (by omega) (by omega)
    have h2 := coll_all (f := f) n (k + 1) (fun i a b => h i (by omega) (by omega))
    cases hv : f k with
    | none => rw [hv] at h1; cases h1
    | some v =>
      cases hc : coll f n (k + 1) with
      | none => rw [hc] at h2; cases h2
      | some l => rfl
theorem fS_some {cl : List Int} {n m k : Nat} {v : Int} (h : fS cl n m k = some v) : 0 ≤ v ∧ v < m ∧ cl.getD (n + v.toNat) 0 = cl.getD k 0 := by
  unfold fS at h
  split at h
  · cases h
  · rename_i hn
    simp only [Option.some.injEq] at h
    rcases lsI_spec (atP cl n k) m (-1) with ⟨u,h1,h2,h3,_⟩ | ⟨_,h2⟩
    · rw [h3] at h
      subst h
      unfold atP at h2
      rw [decide_eq_true_eq] at h2
      exact ⟨by omega,by omega,by simpa using h2⟩
    · rw [h2] at hn; omega
theorem fS_is {cl : List Int} {n m k s : Nat} (hs : s < m) (h : cl.getD (n + s) 0 = cl.getD k 0) : (fS cl n m k).isSome = true := by
  unfold fS
  rcases lsI_spec (atP cl n k) m (-1) with ⟨u,h1,h2,h3,_⟩ | ⟨h1,h2⟩
  · rw [h3,if_neg (by omega)]; rfl
  · have := h1 s hs
    unfold atP at this
    rw [decide_eq_false_iff_not] at this
    exact absurd h this
theorem find_solves {e g : Gr} {l : List Int} (h : findE e g = some l) : solve e g l = true := by
  unfold findE at h
  split at h
  · rename_i c
    simp only [gbOk,Bool.and_eq_true,decide_eq_true_eq] at c
    obtain ⟨he,hg,h60⟩ := c
    obtain ⟨a1,a2,a3⟩ := grOk_to he
    obtain ⟨b1,b2,b3⟩ := grOk_to hg
    have hl := coll_len _ _ h
    have hi : ∀ i,i < e.length → 0 ≤ l.getD i 0 ∧ l.getD i 0 < g.length ∧ (clsG (bothG e g)).getD (e.length + (l.getD i 0).toNat) 0 = (clsG (bothG e g)).getD i 0 := by
      intro i hi
      have := coll_get _ _ h i hi
      rw [Nat.zero_add] at this
      exact fS_some this
    unfold solve
    simp only [Bool.and_eq_true,decide_eq_true_eq]
    refine ⟨he,hg,hl, ?_, ?_⟩
    · rw [stOk_iff]
      intro x hx
      obtain ⟨i,hi1,rfl⟩ := List.mem_iff_getElem.1 hx
      have := hi i (by omega)
      rw [List.getD_eq_getElem?_getD,List.getElem?_eq_getElem hi1,Option.getD_some] at this
      exact ⟨this.1,this.2.1⟩
    · rw [solN_iff]
      intro k _ hk
      rw [Nat.zero_add] at hk
      have hkk := hi k hk
      have hcl : clAt l k = l.getD k 0 := by unfold clAt; simp
      unfold solK
      rw [Bool.and_eq_true,solA_iff,solB_iff,hcl]
      constructor
      · intro m hm
        have hmb := a1.row k m hm
        obtain ⟨z,hz,e1,e2⟩ := cls_alk (bothG e g) (s := k) (t := e.length + (l.getD k 0).toNat) (by rw [both_len]; omega) (by rw [both_len]; omega) hkk.2.2.symm m (by rw [both_row e g hk]; exact hm)
        rw [both_row2] at hz
        obtain ⟨n,hn,rfl⟩ := shL_mem.1 hz
        have hnb := b1.row _ n hn
        refine ⟨n,hn,e1.symm, ?_⟩
        have hmm := hi m.2.toNat (by omega)
        unfold clAt at e2 ⊢
        rw [show (n.2 + (e.length : Int)).toNat = e.length + n.2.toNat by omega] at e2
        exact both_own a1 b1 (by omega) (by omega) (by rw [e2,hmm.2.2])
      · intro n hn
        have hnb := b1.row _ n hn
        obtain ⟨m,hm,e1,e2⟩ := cls_alk (bothG e g) (s := e.length + (l.getD k 0).toNat) (t := k) (by rw [both_len]; omega) (by rw [both_len]; omega) hkk.2.2 (n.1,n.2 + e.length) (by rw [both_row2]; exact shL_mem.2 ⟨n,hn,rfl⟩)
        rw [both_row e g hk] at hm
        have hmb := a1.row k m hm
        refine ⟨m,hm,e1, ?_⟩
        have hmm := hi m.2.toNat (by omega)
        unfold clAt at e2 ⊢
        rw [show (n.2 + (e.length : Int)).toNat = e.length + n.2.toNat by omega] at e2
        exact both_own a1 b1 (by omega) (by omega) (by rw [← e2,hmm.2.2])
  · cases h
theorem find_own (g : Gr) : (findE g g).isSome = gbOk g g := by
  unfold findE
  cases hc : gbOk g g with
  | false => rfl
  | true =>
    rw [if_pos rfl]
    simp only [gbOk,Bool.and_eq_true,decide_eq_true_eq] at hc
    obtain ⟨b1,b2,b3⟩ := grOk_to hc.1
    refine coll_all _ _ fun k _ hk => ?_
    rw [Nat.zero_add] at hk
    refine fS_is hk ?_
    have hB : Bis (bothG g g) (fun p q => ∃ k : Nat,k < g.length ∧ p = g.length + k ∧ q = k) := by
      rintro p q ⟨k,hk,rfl,rfl⟩
      refine ⟨by rw [both_len]; omega,by rw [both_len]; omega,fun z hz => ?_,fun m hm => ?_⟩
      · rw [both_row2] at hz
        obtain ⟨m,hm,rfl⟩ := shL_mem.1 hz
        have hmb := b1.row q m hm
        refine ⟨m,by rw [both_row g g hk]; exact hm,rfl,m.2.toNat,by omega, ?_,rfl⟩
        show (m.2 + (g.length : Int)).toNat = _
        omega
      · rw [both_row g g hk] at hm
        have hmb := b1.row q m hm
        refine ⟨(m.1,m.2 + g.length),by rw [both_row2]; exact shL_mem.2 ⟨m,hm,rfl⟩,rfl,m.2.toNat,by omega, ?_,rfl⟩
        show (m.2 + (g.length : Int)).toNat = _
        omega
    exact bis_cls hB ⟨k,hk,rfl,rfl⟩
end Go.Am
end
section
set_option maxRecDepth 10000
set_option maxHeartbeats 4000000
set_option linter.unusedSimpArgs false
set_option linter.unusedVariables false
namespace Go.Am
open Go.Proofs Go.Sort Go.Shelf
end Go.Am
end
section
set_option maxRecDepth 10000
set_option maxHeartbeats 16000000
set_option linter.unusedSimpArgs false
set_option linter.unusedVariables false
namespace Go.Am
open Go.Proofs Go.Sort Go.Shelf
theorem frz_encG (q : Gr) : tree (encG true false q) = true ∧ fal (encG true false q) = encG true false q := by
  have h := fal_encG q
  refine ⟨?_,by simp only [encG,fal,fals,fal_encM]⟩
  rw [← h,tree_fal]
  exact tree_encG q
theorem trees_mapI : ∀ l : List Int,trees (l.map PV.i) = true
  | [] => rfl
  | x :: l => by simp only [List.map_cons,trees,tree,Bool.true_and]; exact trees_mapI l
theorem fals_mapI : ∀ l : List Int,fals (l.map PV.i) = l.map PV.i
  | [] => rfl
  | x :: l => by simp only [List.map_cons,fals,fal]; rw [fals_mapI l]
theorem weaks_mapI : ∀ l : List Int,weaks 1 (l.map PV.i) = l.map PV.i
  | [] => rfl
  | x :: l => by simp only [List.map_cons,weaks]; rw [weaks_mapI l]; rfl
theorem wkE_ints (l : List Int) : wkE (.sl false 1 (l.map PV.i)) = .sl false 1 (l.map PV.i) := by
  simp only [wkE,weak,weaks_mapI]
theorem wkE_enc (g : Gr) : wkE (encG true false g) = encG false false g := wkG_enc true g
def fndF (r : Option (List Int)) : PV := match r with | none => .nils | some l => .sl false 1 (l.map PV.i)
theorem fndP_tree (r : Option (List Int)) : tree (fndP r) = true ∧ fal (fndP r) = fndF r := by
  cases r with
  | none => exact ⟨rfl,rfl⟩
  | some l => exact ⟨by simp only [fndP,tree]; exact trees_mapI l,by simp only [fndP,fndF,fal,fals_mapI]⟩
theorem wFindI (e g : Gr) (se : SmallG e) (sg : SmallG g) : callI W 6 [encG true false e,encG true false g] [] = some (.tup [fndF (findE e g),.b (findE e g).isSome],[]) := by
  rw [callI_prim' (p := lowTP G 6 wkG) rfl]
  simp only [lowTP,viaP,List.map_cons,List.map_nil,wkG_enc]
  have h := eqFindI e g se sg se.fit sg.fit
  simp only [encG,encM_f] at h ⊢
  rw [h]
  simp only [lowTR,trees,tree,(fndP_tree _).1,Bool.and_self,if_true,fals,(fndP_tree _).2,fal]
theorem wFindS (e g : Gr) (se : SmallG e) (sg : SmallG g) : callI W 7 [encG true false e,encG true false g] [] = some (.tup [fndF (findE e g),.b (findE e g).isSome],[]) := by
  rw [callI_prim' (p := lowTP G 7 wkG) rfl]
  simp only [lowTP,viaP,List.map_cons,List.map_nil,wkG_enc]
  have h := eqFindS e g se sg se.fit sg.fit
  simp only [encG,encM_f] at h ⊢
  rw [h]
  simp only [lowTR,trees,tree,(fndP_tree _).1,Bool.and_self,if_true,fals,(fndP_tree _).2,fal]
theorem wSolveI (e g : Gr) (se : SmallG e) (sg : SmallG g) (l : List Int) (hl : l.length ≤ 1048576) : callI W 10 [encG true false e,encG true false g,.sl false 1 (l.map PV.i)] [] = some (.b (solve e g l),[]) := by
  rw [callI_prim' (p := viaP G 10 wkE) rfl]
  simp only [viaP,List.map_cons,List.map_nil,wkE_enc,wkE_ints]
  have h := eqSolveI e g se.fit sg.fit se sg l hl
  simp only [encG,encM_f] at h ⊢
  exact h
theorem wBoth (a b : Gr) (sa : SmallG a) (sb : SmallG b) : callI W 9 [encG true false a,encG true false b] [] = some (.tup [.agg [if gbOk a b = true then .sl false 1 (encGs true false (bothG a b)) else .nils],.b (gbOk a b)],[]) := by
  rw [callI_prim' (p := lowTP G 9 wkG) rfl]
  simp only [lowTP,viaP,List.map_cons,List.map_nil,wkG_enc]
  have h := eqGBothI a b sa sb sa.fit sb.fit
  simp only [encG,encM_f] at h ⊢
  rw [h]
  cases gbOk a b with
  | false => rfl
  | true =>
    simp only [if_true,lowTR,trees,tree,trees_encGs,Bool.and_self,fals,fal,fals_encGs]
theorem loopMnIs (L : List Int) (hl : L.length ≤ 4611686018427387904) : ∀ (n k : Nat),k + n = L.length →
    loopI H [0,1,5] [] c8l0 ⟨[(0,.sl false 1 (L.map PV.i)),(1,.sl false 1 (L.map PV.i)),(5,.i k)],[],[]⟩ = some (.exit 0,⟨[(0,.sl false 1 (L.map PV.i)),(1,.sl false 1 (L.map PV.i)),(5,.i L.length),(14,.b false)],[],[]⟩)
  | 0,k,h => by
    have : k = L.length := by omega
    subst this
    rw [loopI_eq]
    simp [r8l0,b8l0]
  | n + 1,k,h => by
    have hn := loopMnIs L hl n (k + 1) (by omega)
    have hat := i_nth L (k := k) (by omega)
    have hlt : (k : Int) < L.length := by omega
    have hlt2 : k < L.length := by omega
    have hw : IntKind.i64.wrap ((k : Int) + 1) = (k : Int) + 1 := wr (by omega)
    simp only [Int.natCast_add,show ((1 : Nat) : Int) = 1 from rfl] at hn
    have hml : (L.map PV.i).length = L.length := by simp
    generalize L.map PV.i = M at *
    generalize L.getD k 0 = v at *
    rw [loopI_eq]
    simp [r8l0,b8l0,hml,hlt,hlt2,hat,hw,hn]
theorem wMnInts (r : Option (List Int)) (hr : ∀ l,r = some l → l.length ≤ 4611686018427387904) : callI W 8 [fndF r,fndF r] [] = some (.b true,[]) := by
  rw [callI_prim' (p := viaP H 8 id) rfl]
  simp only [viaP,List.map_cons,List.map_nil,id]
  cases r with
  | none =>
    have hlp : loopI H [0,1,5] [] c8l0 ⟨[(0,.nils),(1,.nils),(5,.i 0)],[],[]⟩ = some (.exit 0,⟨[(0,.nils),(1,.nils),(5,.i 0),(14,.b false)],[],[]⟩) := by
      rw [loopI_eq]
      simp [r8l0,b8l0]
    rw [callI_eq]
    simp [body1_eq _ _ (gpH 8) g8,c8,a8,fndF,hlp]
  | some l =>
    have hlp := loopMnIs l (hr l rfl) l.length 0 (by omega)
    simp only [show ((0 : Nat) : Int) = 0 from rfl] at hlp
    have hml : (l.map PV.i).length = l.length := by simp
    rw [callI_eq]
    simp only [fndF]
    generalize l.map PV.i = M at *
    simp [body1_eq _ _ (gpH 8) g8,c8,a8,hml,hlp]
theorem nDrawFind (B : List Nat) (hB : B.length ≤ 9223372036854775807) (hb : ∀ b ∈ B,b < 256) : ∃ g h,SmallG g ∧ SmallG h ∧ callI W 5 [.sl false 1 (byVs B)] [] = some (.tup [encG true false g,encG true false h],[]) := by
  obtain ⟨B',h1,h2,h3⟩ := nOpen B hB
  have hr : RdrOK B' 0 := ⟨h1,fun b hb' => hb b (h2 b hb'),by omega,by omega⟩
  obtain ⟨g,h,q,e1,e2,sg,sh,e3⟩ := eqTwins [[(2,.box [.nils]),(3,.box [.nils]),(8,rd B' 0)]] (0,8) (by simp) B' 0 hr (by omega)
  have es : ∀ q,setS [[(2,.box [.nils]),(3,.box [.nils]),(8,rd B' 0)]] (0,8) (rd B' q) = [[(2,.box [.nils]),(3,.box [.nils]),(8,rd B' q)]] := fun _ => rfl
  rw [es,es] at e3
  refine ⟨g,h,sg,sh, ?_⟩
  have hN : callI N 5 [.sl false 1 (byVs B)] [] = some (.tup [encG true false g,encG true false h],[]) := by
    simp only [rd,encG] at e3 ⊢
    rw [callI_eq]
    simp [body1_eq _ _ (gpN 5) g5,c5,a5,h3,e3]
  rw [callI_prim' (p := lowTP N 5 id) rfl]
  simp only [lowTP,viaP,List.map_id_fun,id,hN]
  simp only [lowTR,trees,(frz_encG g).1,(frz_encG h).1,Bool.and_self,if_true,fals,(frz_encG g).2,(frz_encG h).2]
theorem findE_short {e g : Gr} {l : List Int} (h : findE e g = some l) : l.length ≤ 60 := by
  unfold findE at h
  split at h
  · rename_i c
    simp only [gbOk,Bool.and_eq_true,decide_eq_true_eq] at c
    have := grOk_to c.1
    have := coll_len _ _ h
    omega
  · cases h
theorem lawFnEquationsFind (B : List Nat) (hB : B.length ≤ 9223372036854775807) (hb : ∀ b ∈ B,b < 256) : callI W 3 [.sl false 1 (byVs B)] [] = some (.b true,[]) := by
  have hBl := byVs_len B
  by_cases hbig : (1048576 : Int) < B.length
  · rw [callI_eq]
    simp [body1_eq _ _ (gpW 3) g3,c3,a3,hBl,hbig]
  obtain ⟨e,g,se,sg,hd⟩ := nDrawFind B hB hb
  have hI := wFindI e g se sg
  have hS := wFindS e g se sg
  have hM := wMnInts (findE e g) (fun l h => by have := findE_short h; omega)
  have hG := wBoth g g sg sg
  have hO := wFindI g g sg sg
  rw [find_own] at hO
  have hV := fun l (h : findE e g = some l) => wSolveI e g se sg l (by have := findE_short h; omega)
  have hT := fun l (h : findE e g = some l) => find_solves h
  have hF : fndF (findE g g) = .nils ∨ ∃ E,fndF (findE g g) = .sl false 1 E := by
    cases findE g g with
    | none => exact .inl rfl
    | some l => exact .inr ⟨_,rfl⟩
  generalize fndF (findE g g) = FG at *
  generalize gbOk g g = bg at *
  simp only [encG] at hd hI hS hM hG hO hV
  cases hfd : findE e g with
  | none =>
    rw [hfd] at hI hS hM
    clear hV hT
    simp only [fndF,Option.isSome_none] at hI hS hM
    rw [callI_eq]
    cases bg <;> rcases hF with rfl | ⟨E,rfl⟩ <;>
      simp [body1_eq _ _ (gpW 3) g3,c3,a3,hBl,hbig,hd,hI,hS,hM,hG,hO]
  | some l =>
    have hV := hV l hfd
    rw [hT l hfd] at hV
    rw [hfd] at hI hS hM
    clear hT
    simp only [fndF,Option.isSome_some] at hI hS hM
    generalize l.map PV.i = LP at *
    rw [callI_eq]
    cases bg <;> rcases hF with rfl | ⟨E,rfl⟩ <;>
      simp [body1_eq _ _ (gpW 3) g3,c3,a3,hBl,hbig,hd,hI,hS,hM,hG,hO,hV]
end Go.Am
end
