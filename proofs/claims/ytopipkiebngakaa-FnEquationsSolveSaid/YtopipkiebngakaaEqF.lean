/- What the functions that the law reaches compute. -/
import Derived.Test.YtopipkiebngakaaEqE
import Derived.Test.YtopipkiebngakaaEqD
import Derived.Test.YtopipkiebngakaaEqB
section
set_option maxRecDepth 10000
set_option maxHeartbeats 1000000
set_option linter.unusedSimpArgs false
set_option linter.unusedVariables false
namespace Go.Am
open Go.Proofs Go.Sort Go.Shelf
theorem loopEqM (p q : List Mv) : ∀ (a b : List Mv),a.length = b.length → p.length = q.length → (p ++ a).length ≤ 4611686018427387904 →
    ∃ r,loopI G [0,1,12,13] [] c78l0 ⟨[(0,.sl false 2 ((p ++ a).map mvP)),(1,.sl false 2 ((q ++ b).map mvP)),(12,.i (p ++ a).length),(13,.i p.length)],[],[]⟩ = some r ∧
      ((a ≠ b ∧ r = (.ret,⟨[(4,.b false)],[],[]⟩)) ∨ (a = b ∧ r = (.exit 0,⟨[(0,.sl false 2 ((p ++ a).map mvP)),(1,.sl false 2 ((q ++ b).map mvP)),(12,.i (p ++ a).length),(13,.i (p ++ a).length),(14,.b false)],[],[]⟩))) := by
  intro a
  induction a generalizing p q with
  | nil =>
    intro b hab hpq hl
    have hb : b = [] := List.length_eq_zero_iff.1 hab.symm
    subst hb
    refine ⟨_, ?_,.inr ⟨rfl,rfl⟩⟩
    rw [loopI_eq]
    simp [r78l0,b78l0]
  | cons x a ih =>
    intro b hab hpq hl
    cases b with
    | nil => cases hab
    | cons y b =>
      have hab' : a.length = b.length := by simpa using hab
      have hA := mv_at p x a
      have hB := mv_at q y b
      rw [← hpq] at hB
      have hll : (p ++ x :: a).length = p.length + (a.length + 1) := by simp
      have hlA : ((p ++ x :: a).map mvP).length = p.length + (a.length + 1) := by simp
      have hlB : ((q ++ y :: b).map mvP).length = p.length + (a.length + 1) := by simp; omega
      have hlt : (p.length : Int) < (p.length : Int) + ((a.length : Int) + 1) := by omega
      have hlt2 : p.length < p.length + (a.length + 1) := by omega
      have hw : IntKind.i64.wrap ((p.length : Int) + 1) = (p.length : Int) + 1 := wr (by omega)
      obtain ⟨r,hn,hr⟩ := ih (p ++ [x]) (q ++ [y]) b hab' (by simp [hpq]) (by simpa using hl)
      have e1 : p ++ [x] ++ a = p ++ x :: a := by simp
      have e2 : q ++ [y] ++ b = q ++ y :: b := by simp
      rw [e1,e2,hll] at hn hr
      rw [hll]
      simp only [List.length_append,List.length_cons,List.length_nil,Int.natCast_add,show ((0 + 1 : Nat) : Int) = 1 from rfl,show ((1 : Nat) : Int) = 1 from rfl] at hn hr ⊢
      generalize hX : (p ++ x :: a).map mvP = X at hA hlA hn hr ⊢
      generalize hZ : (q ++ y :: b).map mvP = Z at hB hlB hn hr ⊢
      simp only [mvP] at hA hB
      by_cases c : x.1 = y.1 ∧ x.2 = y.2
      · have c3 : x = y := Prod.ext c.1 c.2
        subst c3
        refine ⟨r, ?_,by simpa using hr⟩
        rw [loopI_eq]
        simp [r78l0,b78l0,hlA,hlB,hlt,hlt2,hA,hB,hw,unAgg]
        exact hn
      · have c3 : x ≠ y := fun e => c (by subst e; exact ⟨rfl,rfl⟩)
        refine ⟨_, ?_,.inl ⟨by simp [c3],rfl⟩⟩
        have c4 : ¬ (x.1 = y.1 ∧ x.2 = y.2) := c
        rw [loopI_eq]
        by_cases c1 : x.1 = y.1
        · have c2 : ¬ x.2 = y.2 := fun e => c ⟨c1,e⟩
          simp [r78l0,b78l0,hlA,hlB,hlt,hlt2,hA,hB,c1,c2,unAgg]
        · simp [r78l0,b78l0,hlA,hlB,hlt,hlt2,hA,hB,c1,unAgg]
theorem eqEqM (a b : List Mv) (h : a.length ≤ 4611686018427387904) (h2 : b.length ≤ 4611686018427387904) : callI G 78 [encL true false a,encL true false b] [] = some (.b (decide (a = b)),[]) := by
  have ha : ∀ n d gg,core1 n d gg .len [encL true false a] = some (.i a.length,[]) := fun n d gg => by simp
  have hb : ∀ n d gg,core1 n d gg .len [encL true false b] = some (.i b.length,[]) := fun n d gg => by simp
  have hka : ∀ f n,known f n (encL true false a) = true := fun f n => by simp
  have hkb : ∀ f n,known f n (encL true false b) = true := fun f n => by simp
  rw [callI_eq]
  by_cases hl : a.length = b.length
  · obtain ⟨r,hn,hr⟩ := loopEqM [] [] a b hl rfl (by simpa using h)
    simp only [List.nil_append,List.length_nil,show ((0 : Nat) : Int) = 0 from rfl] at hn hr
    have hli : (a.length : Int) = b.length := by omega
    by_cases hz : a = []
    · subst hz
      have hbz : b = [] := List.length_eq_zero_iff.1 hl.symm
      subst hbz
      have h0 : loopI G [0,1,12,13] [] c78l0 ⟨[(0,.nils),(1,.nils),(12,.i 0),(13,.i 0)],[],[]⟩ = some (.exit 0,⟨[(0,.nils),(1,.nils),(12,.i 0),(13,.i 0),(14,.b false)],[],[]⟩) := by
        rw [loopI_eq]
        simp [r78l0,b78l0]
      simp [body1_eq _ _ (gp 78) g78,c78,a78,h0]
    · have hbz : b ≠ [] := fun e => hz (List.length_eq_zero_iff.1 (by rw [hl,e]; rfl))
      have ea : encL true false a = .sl false 2 (a.map mvP) := encL_ne hz
      have eb : encL true false b = .sl false 2 (b.map mvP) := encL_ne hbz
      rw [ea,eb]
      rcases hr with ⟨h1,rfl⟩ | ⟨h1,rfl⟩
      · simp [body1_eq _ _ (gp 78) g78,c78,a78,hli,hn,h1] <;> simp [← hli,hn]
      · subst h1
        simp [body1_eq _ _ (gp 78) g78,c78,a78,hn]
  · have hne : a ≠ b := fun e => hl (by rw [e])
    have hli : ¬ (a.length : Int) = b.length := by omega
    generalize encL true false a = A at ha hka ⊢
    generalize encL true false b = B at hb hkb ⊢
    simp [body1_eq _ _ (gp 78) g78,c78,a78,hli,hne,ha,hb,hka,hkb]
theorem loopEqI (p q : List Int) : ∀ (a b : List Int),a.length = b.length → p.length = q.length → (p ++ a).length ≤ 4611686018427387904 →
    ∃ r,loopI G [0,1,12,13] [] c67l0 ⟨[(0,.sl false 1 ((p ++ a).map PV.i)),(1,.sl false 1 ((q ++ b).map PV.i)),(12,.i (p ++ a).length),(13,.i p.length)],[],[]⟩ = some r ∧
      ((a ≠ b ∧ r = (.ret,⟨[(4,.b false)],[],[]⟩)) ∨ (a = b ∧ r = (.exit 0,⟨[(0,.sl false 1 ((p ++ a).map PV.i)),(1,.sl false 1 ((q ++ b).map PV.i)),(12,.i (p ++ a).length),(13,.i (p ++ a).length),(14,.b false)],[],[]⟩))) := by
  intro a
  induction a generalizing p q with
  | nil =>
    intro b hab hpq hl
    have hb : b = [] := List.length_eq_zero_iff.1 hab.symm
    subst hb
    refine ⟨_, ?_,.inr ⟨rfl,rfl⟩⟩
    rw [loopI_eq]
    simp [r67l0,b67l0]
  | cons x a ih =>
    intro b hab hpq hl
    cases b with
    | nil => cases hab
    | cons y b =>
      have hab' : a.length = b.length := by simpa using hab
      have hA := ii_at p x a
      have hB := ii_at q y b
      rw [← hpq] at hB
      have hll : (p ++ x :: a).length = p.length + (a.length + 1) := by simp
      have hlA : ((p ++ x :: a).map PV.i).length = p.length + (a.length + 1) := by simp
      have hlB : ((q ++ y :: b).map PV.i).length = p.length + (a.length + 1) := by simp; omega
      have hlt : (p.length : Int) < (p.length : Int) + ((a.length : Int) + 1) := by omega
      have hlt2 : p.length < p.length + (a.length + 1) := by omega
      have hw : IntKind.i64.wrap ((p.length : Int) + 1) = (p.length : Int) + 1 := wr (by omega)
      obtain ⟨r,hn,hr⟩ := ih (p ++ [x]) (q ++ [y]) b hab' (by simp [hpq]) (by simpa using hl)
      have e1 : p ++ [x] ++ a = p ++ x :: a := by simp
      have e2 : q ++ [y] ++ b = q ++ y :: b := by simp
      rw [e1,e2,hll] at hn hr
      rw [hll]
      simp only [List.length_append,List.length_cons,List.length_nil,Int.natCast_add,show ((0 + 1 : Nat) : Int) = 1 from rfl,show ((1 : Nat) : Int) = 1 from rfl] at hn hr ⊢
      generalize hX : (p ++ x :: a).map PV.i = X at hA hlA hn hr ⊢
      generalize hZ : (q ++ y :: b).map PV.i = Z at hB hlB hn hr ⊢
      by_cases c : x = y
      · subst c
        refine ⟨r, ?_,by simpa using hr⟩
        rw [loopI_eq]
        simp [r67l0,b67l0,hlA,hlB,hlt,hlt2,hA,hB,hw]
        exact hn
      · refine ⟨_, ?_,.inl ⟨by simp [c],rfl⟩⟩
        rw [loopI_eq]
        simp [r67l0,b67l0,hlA,hlB,hlt,hlt2,hA,hB,c]
theorem eqEqI (a b : List Int) (hl : a.length = b.length) (h : a.length ≤ 4611686018427387904) : callI G 67 [.sl false 1 (a.map PV.i),.sl false 1 (b.map PV.i)] [] = some (.b (decide (a = b)),[]) := by
  obtain ⟨r,hn,hr⟩ := loopEqI [] [] a b hl rfl (by simpa using h)
  simp only [List.nil_append,List.length_nil,show ((0 : Nat) : Int) = 0 from rfl] at hn hr
  have hli : (a.length : Int) = b.length := by omega
  have hla : (a.map PV.i).length = a.length := by simp
  have hlb : (b.map PV.i).length = a.length := by simp [hl]
  rw [callI_eq]
  generalize a.map PV.i = A at hn hr hla ⊢
  generalize b.map PV.i = B at hn hr hlb ⊢
  rcases hr with ⟨h1,rfl⟩ | ⟨h1,rfl⟩
  · simp [body1_eq _ _ (gp 67) g67,c67,a67,hla,hlb,hn,h1]
  · subst h1
    simp [body1_eq _ _ (gp 67) g67,c67,a67,hla,hlb,hn]
end Go.Am
end
section
set_option maxRecDepth 10000
set_option maxHeartbeats 1000000
set_option linter.unusedSimpArgs false
set_option linter.unusedVariables false
namespace Go.Am
open Go.Proofs Go.Sort Go.Shelf
theorem encL_form (l : List Mv) : encL true false l = .nils ∨ ∃ Q,encL true false l = .sl false 2 Q := by
  rcases encL_two true false l with ⟨e,_⟩ | e
  · exact .inl e
  · exact .inr ⟨_,e⟩
abbrev cloMk : PV := .clo 66 [.ref (1,3) 1 0 0,.ref (1,6) 1 0 0]
abbrev stk (E : List PV) (cl : List Int) (R : OB) : Stack := [[(1,.box [.sl false 1 E])],[(3,.box [.clo 52 [.ref (0,1) 1 0 0]]),(6,.box [.sl false 1 (cl.map PV.i)]),(10,R)]]
def mksL (cl : List Int) (g : Gr) (s : Nat) : List PV := (List.range s).map (fun r => encL true false (markOf cl (g.getD r []))) ++ List.replicate (g.length - s) .nils
theorem mksL_at {cl : List Int} {g : Gr} {s r : Nat} (h : r < s) : nth (mksL cl g s) r = some (encL true false (markOf cl (g.getD r []))) := by
  unfold nth mksL
  rw [List.getElem?_append_left (by simpa using h)]
  simp [h]
theorem mksL_len {cl : List Int} {g : Gr} {s : Nat} (h : s ≤ g.length) : (mksL cl g s).length = g.length := by simp [mksL]; omega
theorem mksL_set {cl : List Int} {g : Gr} {s : Nat} (h : s < g.length) : (mksL cl g s).set s (encL true false (markOf cl (g.getD s []))) = mksL cl g (s + 1) := by
  unfold mksL
  rw [List.set_append_right _ _ (by simp),List.range_succ]
  have e : g.length - s = (g.length - (s + 1)) + 1 := by omega
  rw [e,List.replicate_succ]
  simp
def outL (cl : List Int) (g : Gr) (s : Nat) : List Int := (List.range s).map (fun r => (nxt cl g r : Int)) ++ List.replicate (g.length - s) 0
theorem outL_len {cl : List Int} {g : Gr} {s : Nat} (h : s ≤ g.length) : (outL cl g s).length = g.length := by simp [outL]; omega
theorem outL_set {cl : List Int} {g : Gr} {s : Nat} (h : s < g.length) : ((outL cl g s).map PV.i).set s (.i (nxt cl g s)) = (outL cl g (s + 1)).map PV.i := by
  unfold outL
  rw [List.map_append,List.set_append_right _ _ (by simp),List.range_succ]
  have e : g.length - s = (g.length - (s + 1)) + 1 := by omega
  rw [e,List.replicate_succ]
  simp
theorem loopRf0 (E : List PV) (g : Gr) (cl : List Int) (hcl : cl.length = g.length) (hsm : SmallG g) (R : OB) (s : Nat) (hs : s < g.length) (O : List PV) (hO : O.length = g.length) (hOs : nth O s = some (.i s)) (M : List PV) (hM : M.length = g.length) (hMa : ∀ r,r < s + 1 → nth M r = some (encL true false (markOf cl (g.getD r [])))) (hmk : ∀ r,(markOf cl (g.getD r [])).length ≤ 4611686018427387904) : ∀ (k r : Nat),r + k = s → (∀ t,t < r → ¬ alk cl g s t) →
    ∃ st,loopI G [0,1,5,6,7,8,16,17] [11,14] c65l0 ⟨[(0,.sl false 1 (cl.map PV.i)),(1,cloMk),(5,.own (2,11) g.length),(6,.own (2,14) g.length),(7,.i s),(8,.i r),(16,.i g.length),(17,.i s)],[(11,.row 1 O),(14,.row 1 M)],stk E cl R⟩ = some (.exit 2,st) ∧
      ((nxt cl g s = s ∧ st = ⟨[(0,.sl false 1 (cl.map PV.i)),(1,cloMk),(5,.own (2,11) g.length),(6,.own (2,14) g.length),(7,.i s),(8,.i s),(16,.i g.length),(17,.i s),(32,.b false)],[(11,.row 1 O),(14,.row 1 M)],stk E cl R⟩) ∨
       (st = ⟨[(0,.sl false 1 (cl.map PV.i)),(1,cloMk),(5,.own (2,11) g.length),(6,.own (2,14) g.length),(16,.i g.length),(17,.i s)],[(11,.row 1 (O.set s (.i (nxt cl g s)))),(14,.row 1 M)],stk E cl R⟩))
  | 0,r,hr,hb => by
    have hr : r = s := by omega
    subst hr
    have hx := nxt_spec cl g r
    have he : nxt cl g r = r := by
      rcases Nat.lt_or_ge (nxt cl g r) r with h | h
      · exact (hb _ h hx.2.1).elim
      · omega
    refine ⟨_, ?_,.inl ⟨he,rfl⟩⟩
    rw [loopI_eq]
    simp [r65l0,b65l0]
  | k + 1,r,hr,hb => by
    have hgl := hsm.1
    have hrs : r < s := by omega
    have hrg : r < g.length := by omega
    have hri : (r : Int) < s := by omega
    have hri2 : (r : Int) < g.length := by omega
    have hsi : (s : Int) < g.length := by omega
    have hw : IntKind.i64.wrap ((r : Int) + 1) = (r : Int) + 1 := wr (by omega)
    have hcl2 : (cl.map PV.i).length = g.length := by simp [hcl]
    have hcr := int_nth cl r (by omega)
    have hcs := int_nth cl s (by omega)
    have hmr := hMa r (by omega)
    have hms := hMa s (by omega)
    have hx := nxt_spec cl g s
    have heq := eqEqM _ _ (hmk r) (hmk s)
    have hsh : alk cl g s r ↔ cl.getD r 0 = cl.getD s 0 ∧ markOf cl (g.getD r []) = markOf cl (g.getD s []) := by
      rw [alk_mark]; exact and_congr Iff.rfl eq_comm
    have fr := encL_form (markOf cl (g.getD r []))
    have fs := encL_form (markOf cl (g.getD s []))
    by_cases hA : alk cl g s r
    · have he : nxt cl g s = r := by
        rcases Nat.lt_trichotomy (nxt cl g s) r with h | h | h
        · exact (hb _ h hx.2.1).elim
        · exact h
        · exact (hx.2.2 r h hA).elim
      have hA2 := hsh.1 hA
      refine ⟨_, ?_,.inr rfl⟩
      rw [he]
      rw [hA2.1] at hcr
      simp only [hA2.2,decide_true] at heq hmr
      generalize encL true false (markOf cl (g.getD s [])) = X at hmr hms heq fs
      generalize hC : cl.map PV.i = C at hcl2 hcr hcs ⊢
      rw [loopI_eq]
      rcases fs with rfl | ⟨Q,rfl⟩
      · simp [r65l0,b65l0,hri,hri2,hsi,hrg,hs,hcl2,hcr,hcs,hO,hOs,hM,hmr,hms,heq,unAgg]
      · simp [r65l0,b65l0,hri,hri2,hsi,hrg,hs,hcl2,hcr,hcs,hO,hOs,hM,hmr,hms,heq,unAgg]
    · have hn := loopRf0 E g cl hcl hsm R s hs O hO hOs M hM hMa hmk k (r + 1) (by omega) (fun t ht => by
        by_cases e : t = r
        · subst e; exact hA
        · exact hb t (by omega))
      obtain ⟨st,hn,hst⟩ := hn
      simp only [Int.natCast_add,show ((1 : Nat) : Int) = 1 from rfl] at hn
      refine ⟨st, ?_,hst⟩
      by_cases c1 : cl.getD r 0 = cl.getD s 0
      · have c2 : ¬ markOf cl (g.getD r []) = markOf cl (g.getD s []) := fun e => hA (hsh.2 ⟨c1,e⟩)
        simp only [c2,decide_false] at heq
        rw [c1] at hcr
        generalize encL true false (markOf cl (g.getD s [])) = X at hms heq fs
        generalize encL true false (markOf cl (g.getD r [])) = Y at hmr heq fr
        generalize hC : cl.map PV.i = C at hcl2 hcr hcs hn ⊢
        rw [loopI_eq]
        rcases fs with rfl | ⟨Q,rfl⟩
        · rcases fr with rfl | ⟨Q2,rfl⟩
          · simp [r65l0,b65l0,hri,hri2,hsi,hrg,hs,hcl2,hcr,hcs,hO,hM,hmr,hms,heq,hw]
            exact hn
          · simp [r65l0,b65l0,hri,hri2,hsi,hrg,hs,hcl2,hcr,hcs,hO,hM,hmr,hms,heq,hw]
            exact hn
        · rcases fr with rfl | ⟨Q2,rfl⟩
          · simp [r65l0,b65l0,hri,hri2,hsi,hrg,hs,hcl2,hcr,hcs,hO,hM,hmr,hms,heq,hw]
            exact hn
          · simp [r65l0,b65l0,hri,hri2,hsi,hrg,hs,hcl2,hcr,hcs,hO,hM,hmr,hms,heq,hw]
            exact hn
      · generalize hC : cl.map PV.i = C at hcl2 hcr hcs hn ⊢
        generalize cl.getD r 0 = ct at hcr c1
        generalize cl.getD s 0 = cs at hcs c1
        rw [loopI_eq]
        simp [r65l0,b65l0,hri,hri2,hsi,hrg,hs,hcl2,hcr,hcs,hO,hM,c1,hw]
        exact hn
theorem loopRf1 (E : List PV) (g : Gr) (hE : EncR false E g) (cl : List Int) (hcl : cl.length = g.length) (hsm : SmallG g) (hok : OkTo g) (R : OB) (hmk : ∀ r,(markOf cl (g.getD r [])).length ≤ 4611686018427387904) : ∀ (n s : Nat),s + n = g.length →
    loopI G [0,1,5,6,16,17] [11,14] c65l1 ⟨[(0,.sl false 1 (cl.map PV.i)),(1,cloMk),(5,.own (2,11) g.length),(6,.own (2,14) g.length),(16,.i g.length),(17,.i s)],[(11,.row 1 ((outL cl g s).map PV.i)),(14,.row 1 (mksL cl g s))],stk E cl R⟩ =
      some (.exit 0,⟨[(0,.sl false 1 (cl.map PV.i)),(1,cloMk),(5,.own (2,11) g.length),(6,.own (2,14) g.length),(16,.i g.length),(17,.i g.length),(18,.b false)],[(11,.row 1 ((outL cl g g.length).map PV.i)),(14,.row 1 (mksL cl g g.length))],stk E cl R⟩)
  | 0,s,hs => by
    have he : s = g.length := by omega
    subst he
    rw [loopI_eq]
    simp [r65l1,b65l1]
  | n + 1,s,hs => by
    have hgl := hsm.1
    have hsg : s < g.length := by omega
    have hsi : (s : Int) < g.length := by omega
    have hw : IntKind.i64.wrap ((s : Int) + 1) = (s : Int) + 1 := wr (by omega)
    have hm1 := eqMk1 E g hE cl hcl hsm hok s hsg R
    have hn := loopRf1 E g hE cl hcl hsm hok R hmk n (s + 1) (by omega)
    simp only [Int.natCast_add,show ((1 : Nat) : Int) = 1 from rfl] at hn
    have hol : ((outL cl g s).map PV.i).length = g.length := by rw [List.length_map,outL_len (by omega)]
    have hml := mksL_len (cl := cl) (g := g) (s := s) (by omega)
    have hml1 := mksL_len (cl := cl) (g := g) (s := s + 1) (by omega)
    have hms := mksL_set (cl := cl) hsg
    have hos := outL_set (cl := cl) hsg
    obtain ⟨st,h0,hst⟩ := loopRf0 E g cl hcl hsm R s hsg (((outL cl g s).map PV.i).set s (.i s)) (by rw [List.length_set]; exact hol) (by unfold nth; rw [List.getElem?_set_self (by omega)]) (mksL cl g (s + 1)) hml1 (fun r hr => mksL_at hr) hmk s 0 (by omega) (fun t ht => by omega)
    simp only [show ((0 : Nat) : Int) = 0 from rfl,List.set_set] at h0 hst
    rw [hos] at hst
    have hnl : nth (mksL cl g s) s = some .nils := by
      unfold nth mksL
      rw [List.getElem?_append_right (by simp)]
      have e : g.length - s = (g.length - (s + 1)) + 1 := by omega
      rw [e,List.replicate_succ]
      simp
    have hnz : nth ((outL cl g s).map PV.i) s = some (.i 0) := by
      unfold nth outL
      rw [List.getElem?_map,List.getElem?_append_right (by simp)]
      have e : g.length - s = (g.length - (s + 1)) + 1 := by omega
      rw [e,List.replicate_succ]
      simp
    have hfl : fals ((markOf cl (g.getD s [])).map mvP) = (markOf cl (g.getD s [])).map mvP := fals_mvP _
    have hns := noShares_mv (markOf cl (g.getD s []))
    simp only [stk] at hn h0 hst ⊢
    rw [loopI_eq]
    rcases encL_two true true (markOf cl (g.getD s [])) with ⟨e,e2⟩ | e
    · rw [e] at hm1
      have e3 : encL true false (markOf cl (g.getD s [])) = .nils := by rw [e2]; rfl
      rw [e3] at hms
      rcases hst with ⟨hx,rfl⟩ | rfl
      · rw [hx] at hos
        rw [hos] at h0
        generalize hC : cl.map PV.i = C at hm1 h0 hn ⊢
        generalize mksL cl g s = M0 at hml hms hnl ⊢
        generalize mksL cl g (s + 1) = M1 at hml1 hms h0 hn
        generalize (outL cl g s).map PV.i = O0 at hol hos hnz ⊢
        generalize (outL cl g (s + 1)).map PV.i = O1 at hos h0 hn
        simp [r65l1,b65l1,hsi,hsg,hm1,hml,hms,hml1,hol,hos,hnl,hnz,h0,hw,unAgg]
        exact hn
      · generalize hC : cl.map PV.i = C at hm1 h0 hn ⊢
        generalize mksL cl g s = M0 at hml hms hnl ⊢
        generalize mksL cl g (s + 1) = M1 at hml1 hms h0 hn
        generalize (outL cl g s).map PV.i = O0 at hol hos hnz h0 ⊢
        generalize (outL cl g (s + 1)).map PV.i = O1 at hos h0 hn
        simp [r65l1,b65l1,hsi,hsg,hm1,hml,hms,hml1,hol,hos,hnl,hnz,h0,hw,unAgg]
        exact hn
    · have hne : markOf cl (g.getD s []) ≠ [] := by intro e2; rw [e2] at e; cases e
      have e3 : encL true false (markOf cl (g.getD s [])) = .sl false 2 ((markOf cl (g.getD s [])).map mvP) := encL_ne hne
      rw [e] at hm1
      rw [e3] at hms
      generalize (markOf cl (g.getD s [])).map mvP = Q at hm1 hms hfl hns
      rcases hst with ⟨hx,rfl⟩ | rfl
      · rw [hx] at hos
        rw [hos] at h0
        generalize hC : cl.map PV.i = C at hm1 h0 hn ⊢
        generalize mksL cl g s = M0 at hml hms hnl ⊢
        generalize mksL cl g (s + 1) = M1 at hml1 hms h0 hn
        generalize (outL cl g s).map PV.i = O0 at hol hos hnz ⊢
        generalize (outL cl g (s + 1)).map PV.i = O1 at hos h0 hn
        simp [r65l1,b65l1,hsi,hsg,hm1,hml,hms,hml1,hol,hos,hnl,hnz,h0,hw,hfl,hns,unAgg]
        exact hn
      · generalize hC : cl.map PV.i = C at hm1 h0 hn ⊢
        generalize mksL cl g s = M0 at hml hms hnl ⊢
        generalize mksL cl g (s + 1) = M1 at hml1 hms h0 hn
        generalize (outL cl g s).map PV.i = O0 at hol hos hnz h0 ⊢
        generalize (outL cl g (s + 1)).map PV.i = O1 at hos h0 hn
        simp [r65l1,b65l1,hsi,hsg,hm1,hml,hms,hml1,hol,hos,hnl,hnz,h0,hw,hfl,hns,unAgg]
        exact hn
theorem markOf_le (cl : List Int) (g : Gr) (hsm : SmallG g) (r : Nat) : (markOf cl (g.getD r [])).length ≤ 4611686018427387904 := by
  have hl : (g.getD r []).length ≤ 1048576 := by
    rw [List.getD_eq_getElem?_getD]
    cases h : g[r]? with
    | none => simp
    | some l => exact hsm.2 _ (List.mem_of_getElem? h)
  have h2 : (markOf cl (g.getD r [])).length ≤ (mrL cl (g.getD r [])).length := tidyL_len _
  have h3 : (mrL cl (g.getD r [])).length = (g.getD r []).length := by simp [mrL]
  omega
theorem eqRefine (E : List PV) (g : Gr) (hE : EncR false E g) (cl : List Int) (hcl : cl.length = g.length) (hsm : SmallG g) (hok : OkTo g) (R : OB) :
    callI G 65 [.sl false 1 (cl.map PV.i),cloMk] (stk E cl R) = some (.sl true 1 ((nextC cl g).map PV.i),stk E cl R) := by
  have hgl := hsm.1
  have hl := loopRf1 E g hE cl hcl hsm hok R (markOf_le cl g hsm) g.length 0 (by omega)
  have e1 : (outL cl g 0).map PV.i = List.replicate g.length (.i 0) := by simp [outL]
  have e2 : mksL cl g 0 = List.replicate g.length .nils := by simp [mksL]
  have e3 : outL cl g g.length = nextC cl g := by simp [outL,nextC]
  rw [e1,e2,e3] at hl
  simp only [show ((0 : Nat) : Int) = 0 from rfl] at hl
  have hcl2 : (cl.map PV.i).length = g.length := by simp [hcl]
  have hnl : ((nextC cl g).map PV.i).length = g.length := by rw [List.length_map,nextC_len]
  have hgb : (g.length : Int) ≤ 4294967296 := by omega
  generalize (nextC cl g).map PV.i = N at hl hnl ⊢
  generalize mksL cl g g.length = M1 at hl
  rw [callI_eq]
  generalize hC : cl.map PV.i = C at hcl2 hl ⊢
  simp [body1_eq _ _ (gp 65) g65,c65,a65,hcl2,hgb,hl,hnl]
end Go.Am
end
section
set_option maxRecDepth 10000
set_option maxHeartbeats 1000000
set_option linter.unusedSimpArgs false
set_option linter.unusedVariables false
namespace Go.Am
open Go.Proofs Go.Sort Go.Shelf
theorem loopRI (E : List PV) (g : Gr) (hE : EncR false E g) (hsm : SmallG g) (hok : OkTo g) (hg : 1 ≤ g.length) : ∀ (f : Nat) (R : List (List Int)) (last : List Int),Stops g f last → last.length = g.length → R.length + f ≤ 1000000 →
    loopI G [3,5] [3,10,27] c51l0 ⟨[(3,.ref (1,3) 1 0 0),(5,.own (1,10) (R.length + 1))],[(3,.box [.clo 52 [.ref (0,1) 1 0 0]]),(10,.row 1 ((R ++ [last]).map encI))],[[(1,.box [.sl false 1 E])]]⟩ =
      some (.ret,⟨[(4,.own (1,10) (rnds g f R last).length)],[(10,.row 1 ((rnds g f R last).map encI))],[[(1,.box [.sl false 1 E])]]⟩)
  | 0,R,last,hst,hl,hR => hst.elim
  | f + 1,R,last,hst,hl,hR => by
    have hgl := hsm.1
    have k1 := eqRefine E g hE last hl hsm hok (.row 1 ((R ++ [last]).map encI))
    have k2 := eqEqI (nextC last g) last (by rw [nextC_len,hl]) (by rw [nextC_len]; omega)
    have hw : IntKind.i64.wrap ((R.length : Int) + 1 - 1) = R.length := by rw [wr (by omega)]; omega
    have hw3 : IntKind.i64.wrap (R.length : Int) = R.length := wr (by omega)
    have hlt : (R.length : Int) < (R.length : Int) + 1 := by omega
    have hat : nth ((R ++ [last]).map encI) R.length = some (.sl false 1 (last.map PV.i)) := by
      rw [List.map_append]; exact at_D _ _ _ _ (by simp)
    have hml : ((R ++ [last]).map encI).length = R.length + 1 := by simp
    have hRb : R.length + 1 ≤ 4294967295 := by omega
    simp only [stk] at k1
    by_cases he : nextC last g = last
    · have hr : rnds g (f + 1) R last = R ++ [last] := by simp [rnds,he]
      have hrl : (R ++ [last]).length = R.length + 1 := by simp
      rw [hr,hrl]
      rw [he] at k1 k2
      simp only [decide_true] at k2
      generalize hM : (R ++ [last]).map encI = M at hat hml k1 ⊢
      rw [loopI_eq]
      simp [r51l0,b51l0,hw,hw3,hlt,hat,hml,k1,k2,fals_i]
    · have hr : rnds g (f + 1) R last = rnds g f (R ++ [last]) (nextC last g) := by simp [rnds,he]
      rw [hr]
      have hst2 : Stops g f (nextC last g) := hst.resolve_left he
      have hn := loopRI E g hE hsm hok hg f (R ++ [last]) (nextC last g) hst2 (nextC_len _ _) (by simp; omega)
      have e1 : (R ++ [last] ++ [nextC last g]).map encI = (R ++ [last]).map encI ++ [.sl false 1 ((nextC last g).map PV.i)] := by simp [encI]
      rw [e1] at hn
      simp only [List.length_append,List.length_cons,List.length_nil,Nat.zero_add] at hn
      simp only [he,decide_false] at k2
      generalize hM : (R ++ [last]).map encI = M at hat hml hn k1 ⊢
      generalize nextC last g = N at k1 k2 hn
      rw [loopI_eq]
      simp [r51l0,b51l0,hw,hw3,hlt,hat,hml,k1,k2,hRb,fals_i]
      exact ⟨by omega,hn⟩
theorem encI_zer (n : Nat) : [PV.sl false 1 (List.replicate n (PV.i 0))] = ([] ++ [zer n]).map encI := by simp [encI,zer]
theorem fals_zer (n : Nat) : fals (List.replicate n (PV.i 0)) = List.replicate n (PV.i 0) := by
  have := fals_i (List.replicate n 0)
  simpa using this
theorem eqRounds (E : List PV) (g : Gr) (hE : EncR false E g) (hsm : SmallG g) (hok : OkTo g) (hg : 1 ≤ g.length) (h60 : g.length ≤ 500) :
    callI G 51 [.i g.length,.clo 52 [.ref (0,1) 1 0 0]] [[(1,.box [.sl false 1 E])]] = some (.sl true 1 ((rnds g (g.length + 1) [] (zer g.length)).map encI),[[(1,.box [.sl false 1 E])]]) := by
  have hl := loopRI E g hE hsm hok hg (g.length + 1) [] (zer g.length) (stops0 g) (zer_len _) (by simp; omega)
  rw [← encI_zer] at hl
  simp only [List.length_nil,Nat.zero_add] at hl
  have hgb : (g.length : Int) ≤ 4294967296 := by omega
  have hml : ((rnds g (g.length + 1) [] (zer g.length)).map encI).length = (rnds g (g.length + 1) [] (zer g.length)).length := by simp
  generalize hF : (rnds g (g.length + 1) [] (zer g.length)).map encI = F at hl hml ⊢
  rw [callI_eq]
  simp [body1_eq _ _ (gp 51) g51,c51,a51,hgb,hl,hml,fals_zer]
theorem eqAlikeRounds (E : List PV) (g : Gr) (hE : EncR false E g) (hsm : SmallG g) (hok : OkTo g) (hg : 1 ≤ g.length) (h60 : g.length ≤ 500) :
    callI G 34 [.agg [.sl false 1 E]] [] = some (.sl true 1 ((rnds g (g.length + 1) [] (zer g.length)).map encI),[]) := by
  have hl := eqRounds E g hE hsm hok hg h60
  have hEl := hE.1
  clear hE
  generalize hF : (rnds g (g.length + 1) [] (zer g.length)).map encI = F at hl ⊢
  rw [callI_eq]
  simp [body1_eq _ _ (gp 34) g34,c34,a34,hEl,hl]
theorem eqCloneI (l : List Int) (h : l ≠ []) (hl : l.length ≤ 4294967296) : callI G 35 [.sl false 1 (l.map PV.i)] [] = some (.sl true 1 (l.map PV.i),[]) := by
  rcases l with _ | ⟨x,l⟩
  · exact absurd rfl h
  · have hf := fals_i (x :: l)
    rw [callI_eq]
    simp at hl hf
    simp [body1_eq _ _ (gp 35) g35,c35,a35,hf,hl]
theorem rnds_clsG (g : Gr) : ∃ R',rnds g (g.length + 1) [] (zer g.length) = R' ++ [clsG g] ∧ R'.length ≤ g.length + 1 := by
  obtain ⟨R',h1,h2⟩ := rnds_last g (g.length + 1) [] (zer g.length)
  exact ⟨R',h1,by simpa using h2⟩
theorem clsG_ne {g : Gr} (hg : 1 ≤ g.length) : clsG g ≠ [] := by
  intro e
  have := clsG_len g
  rw [e] at this
  have h0 : (0 : Nat) = g.length := this
  omega
theorem eqAlikeClasses (E : List PV) (g : Gr) (hE : EncR false E g) (hsm : SmallG g) (hok : OkTo g) (hg : 1 ≤ g.length) (h60 : g.length ≤ 500) :
    callI G 16 [.agg [.sl false 1 E]] [] = some (.sl true 1 ((clsG g).map PV.i),[]) := by
  have hl := eqAlikeRounds E g hE hsm hok hg h60
  have hc := eqCloneI (clsG g) (clsG_ne hg) (by rw [clsG_len]; omega)
  obtain ⟨R',h1,h2⟩ := rnds_clsG g
  rw [h1] at hl
  have hat : nth ((R' ++ [clsG g]).map encI) R'.length = some (.sl false 1 ((clsG g).map PV.i)) := by
    rw [List.map_append]; exact at_D _ _ _ _ (by simp)
  have hml : ((R' ++ [clsG g]).map encI).length = R'.length + 1 := by simp
  have hw : IntKind.i64.wrap ((R'.length : Int) + 1 - 1) = R'.length := by rw [wr (by omega)]; omega
  have hw3 : IntKind.i64.wrap (R'.length : Int) = R'.length := wr (by omega)
  have hlt : (R'.length : Int) < (R'.length : Int) + 1 := by omega
  generalize (R' ++ [clsG g]).map encI = F at hl hat hml
  generalize (clsG g).map PV.i = C at hc hat ⊢
  rw [callI_eq]
  simp [body1_eq _ _ (gp 16) g16,c16,a16,hl,hml,hw,hw3,hlt,hat,hc]
theorem eqL4Rounds (E : List PV) (g : Gr) (hE : EncR false E g) (hsm : SmallG g) (hok : OkTo g) (hg : 1 ≤ g.length) (h60 : g.length ≤ 500) :
    callI G 37 [.agg [.sl false 1 E]] [] = some (.sl true 1 ((rnds g (g.length + 1) [] (zer g.length)).map encI),[]) := by
  have hl := loopRn E g hE hsm hok hg (g.length + 1) [] (zer g.length) (stops0 g) (zer_len _) (by simp; omega)
  rw [← encI_zer] at hl
  simp only [List.length_nil,Nat.zero_add] at hl
  have hEl := hE.1
  have hgb : (g.length : Int) ≤ 4294967296 := by omega
  have hml : ((rnds g (g.length + 1) [] (zer g.length)).map encI).length = (rnds g (g.length + 1) [] (zer g.length)).length := by simp
  clear hE
  generalize hF : (rnds g (g.length + 1) [] (zer g.length)).map encI = F at hl hml ⊢
  rw [callI_eq]
  simp [body1_eq _ _ (gp 37) g37,c37,a37,hEl,hgb,hl,hml,fals_zer]
theorem eqL4Classes (E : List PV) (g : Gr) (hE : EncR false E g) (hsm : SmallG g) (hok : OkTo g) (hg : 1 ≤ g.length) (h60 : g.length ≤ 500) :
    callI G 18 [.agg [.sl false 1 E]] [] = some (.sl false 1 ((clsG g).map PV.i),[]) := by
  have hl := eqL4Rounds E g hE hsm hok hg h60
  obtain ⟨R',h1,h2⟩ := rnds_clsG g
  rw [h1] at hl
  have hat : nth ((R' ++ [clsG g]).map encI) R'.length = some (.sl false 1 ((clsG g).map PV.i)) := by
    rw [List.map_append]; exact at_D _ _ _ _ (by simp)
  have hml : ((R' ++ [clsG g]).map encI).length = R'.length + 1 := by simp
  have hw : IntKind.i64.wrap ((R'.length : Int) + 1 - 1) = R'.length := by rw [wr (by omega)]; omega
  have hw3 : IntKind.i64.wrap (R'.length : Int) = R'.length := wr (by omega)
  have hlt : (R'.length : Int) < (R'.length : Int) + 1 := by omega
  generalize (R' ++ [clsG g]).map encI = F at hl hat hml
  generalize (clsG g).map PV.i = C at hat ⊢
  rw [callI_eq]
  simp [body1_eq _ _ (gp 18) g18,c18,a18,hl,hml,hw,hw3,hlt,hat]
end Go.Am
end
section
set_option maxRecDepth 10000
set_option maxHeartbeats 4000000
set_option linter.unusedSimpArgs false
set_option linter.unusedVariables false
namespace Go.Am
open Go.Proofs Go.Sort Go.Shelf
theorem clsG_le (g : Gr) {s : Nat} (hs : s < g.length) : ∃ u : Nat,(clsG g).getD s 0 = u ∧ u ≤ s := by
  have key : ∀ (f : Nat) (cl : List Int),NrmC cl → NrmC (itC g f cl) := by
    intro f
    induction f with
    | zero => intro cl h; exact h
    | succ f ih => intro cl h; exact ih _ (nextC_nrm cl g)
  obtain ⟨u,h1,h2,_⟩ := key (g.length + 1) _ (zer_nrm g.length) s (by rw [itC_len g _ _ (zer_len _)]; exact hs)
  exact ⟨u,h1,h2⟩
theorem i_nth (A : List Int) {k : Nat} (h : k < A.length) : nth (A.map PV.i) k = some (.i (A.getD k 0)) := int_nth A k h
theorem i_set (A : List Int) (k : Nat) (v : Int) : (A.map PV.i).set k (.i v) = (A.set k v).map PV.i := by
  rw [List.map_set]
theorem loopFo0 (E : List PV) (cls : List Int) (N : Nat) (hN : N ≤ 1000) (hl : cls.length = N) (hc : ∀ s,s < N → ∃ u : Nat,cls.getD s 0 = u ∧ u ≤ s) : ∀ (k s : Nat) (A : List Int) (n : Int),s + k = N → A.length = N → 0 ≤ n → n ≤ s →
    ∃ (A' : List Int) (n' : Int),A'.length = N ∧ loopI G [1,2,4,5,6,7] [2,4,14,97] c50l0 ⟨[(1,.sl false 1 (cls.map PV.i)),(2,.ref (0,2) 1 0 0),(4,.ref (0,4) 1 0 0),(5,.own (0,14) N),(6,.i n),(7,.i s)],[(2,.box [PV.sl false 1 E]),(4,.box [.nils]),(14,.row 1 (A.map PV.i))],[]⟩ =
      some (.exit 0,⟨[(1,.sl false 1 (cls.map PV.i)),(2,.ref (0,2) 1 0 0),(4,.ref (0,4) 1 0 0),(5,.own (0,14) N),(6,.i n'),(7,.i N),(18,.b false)],[(2,.box [PV.sl false 1 E]),(4,.box [.nils]),(14,.row 1 (A'.map PV.i))],[]⟩)
  | 0,s,A,n,hs,hA,h0,h1 => by
    obtain rfl : s = N := by omega
    refine ⟨A,n,hA, ?_⟩
    rw [loopI_eq]
    simp [r50l0,b50l0,hl]
  | k + 1,s,A,n,hs,hA,h0,h1 => by
    have hsN : s < N := by omega
    have hlt : (s : Int) < N := by omega
    have hw : IntKind.i64.wrap ((s : Int) + 1) = (s : Int) + 1 := wr (by omega)
    have hwn : IntKind.i64.wrap (n + 1) = n + 1 := wr (by omega)
    obtain ⟨u,hu,hus⟩ := hc s hsN
    have hcs := i_nth cls (k := s) (by omega)
    rw [hu] at hcs
    have huN : u < N := by omega
    have huN2 : (u : Int) < N := by omega
    have hAu := i_nth A (k := u) (by omega)
    have hCl : (cls.map PV.i).length = N := by simp [hl]
    have hAl : (A.map PV.i).length = N := by simp [hA]
    have hst := i_set A s
    have hst2 := fun v w => i_set (A.set s v) s w
    have hSl : ∀ v,((A.set s v).map PV.i).length = N := by intro v; simp [hA]
    have hAs := i_nth A (k := s) (by omega)
    generalize hv : A.getD u 0 = v at *
    generalize A.getD s 0 = vs at hAs
    have hAs1 := i_nth (A.set s v) (k := s) (by simp; omega)
    generalize (A.set s v).getD s 0 = vs1 at hAs1
    have hAl2 : (A.set s v).length = N := by simp [hA]
    have hAl3 : ∀ w,((A.set s v).set s w).length = N := by intro w; simp [hA]
    by_cases e : u = s
    · subst e
      obtain ⟨A',n',hA',hn⟩ := loopFo0 E cls N hN hl hc k (u + 1) ((A.set u v).set u n) (n + 1) (by omega) (hAl3 n) (by omega) (by omega)
      refine ⟨A',n',hA', ?_⟩
      have hg2 := hst2 v n
      have hg1 := hst v
      clear hst hst2
      generalize hC : cls.map PV.i = C at *
      generalize (A.set u v).set u n = A2 at *
      have hSv := hSl v
      generalize A.set u v = A1 at *
      generalize A.map PV.i = AP at *
      generalize A1.map PV.i = AP1 at *
      rw [loopI_eq]
      simp [r50l0,b50l0,hlt,hsN,hCl,hAl,hcs,huN,hAu,hAs,hAs1,hg1,hg2,hw,hwn,unAgg,hSv,hl]
      simpa using hn
    · obtain ⟨A',n',hA',hn⟩ := loopFo0 E cls N hN hl hc k (s + 1) (A.set s v) n (by omega) hAl2 (by omega) (by omega)
      refine ⟨A',n',hA', ?_⟩
      have hg1 := hst v
      have e' : ¬ (u : Int) = s := by omega
      clear hst hst2
      generalize hC : cls.map PV.i = C at *
      have hSv := hSl v
      generalize A.set s v = A1 at *
      generalize A.map PV.i = AP at *
      generalize A1.map PV.i = AP1 at *
      rw [loopI_eq]
      simp [r50l0,b50l0,hlt,hsN,hCl,hAl,hcs,huN,huN2,hAu,hAs,hg1,hw,e,e',unAgg,hSv,hl]
      simpa using hn
def atA (A : List Int) (x : Int) : Int := A.getD x.toNat 0
def foR (A : List Int) (l : List Mv) : List Mv := l.map fun m => (m.1,atA A m.2)
@[simp] theorem foR_len (A : List Int) (l : List Mv) : (foR A l).length = l.length := by simp [foR]
theorem loopFo1 (E C : List PV) (A : List Int) (g : Gr) (hE : EncR false E g) (hA : A.length = g.length) (Y : PV) (YL : Objs) (xs : List PV) (hY : OwnS 97 1 Y YL xs) (j : Nat) (hj : j < g.length) (hjb : j ≤ 1048576) (L : List Mv) (hL : g.getD j [] = L) (hLt : ∀ m ∈ L,0 ≤ m.2 ∧ m.2 < g.length) (hLl : L.length ≤ 1048576) : ∀ (rest done : List Mv),L = done ++ rest →
    loopI G [1,2,4,5,8,9,10,11] [2,4,8,14,56,91,97] c50l1 ⟨[(1,.sl false 1 C),(2,.ref (0,2) 1 0 0),(4,.ref (0,4) 1 0 0),(5,.own (0,14) g.length),(8,.ref (0,8) 1 0 0),(9,.i j),(10,owP 91 (foR A done)),(11,.i done.length)],(2,.box [PV.sl false 1 E]) :: (4,.box [.nils]) :: (8,.box [Y]) :: (14,.row 1 (A.map PV.i)) :: (owL 91 (foR A done) ++ YL),[]⟩ =
      some (.exit 4,⟨[(1,.sl false 1 C),(2,.ref (0,2) 1 0 0),(4,.ref (0,4) 1 0 0),(5,.own (0,14) g.length),(8,.ref (0,8) 1 0 0),(9,.i j),(10,owP 91 (foR A L)),(11,.i L.length),(64,.b false)],(2,.box [PV.sl false 1 E]) :: (4,.box [.nils]) :: (8,.box [Y]) :: (14,.row 1 (A.map PV.i)) :: (owL 91 (foR A L) ++ YL),[]⟩)
  | [],done,hd => by
    rw [List.append_nil] at hd
    subst hd
    have hEl := hE.1
    obtain ⟨nl,hat⟩ := hE.2 j hj
    rw [hL] at hat
    have hji : (j : Int) < g.length := by omega
    clear hE
    generalize hR : A.map PV.i = R
    rw [loopI_eq]
    rcases encL_two nl false L with ⟨e,e2⟩ | e
    · rw [e] at hat
      subst e2
      rcases hY with ⟨rfl,rfl,rfl⟩ | ⟨hxs,rfl,rfl⟩
      · simp [r50l1,b50l1,hEl,hj,hji,hat,foR]
      · simp [r50l1,b50l1,hEl,hj,hji,hat,foR]
    · rw [e] at hat
      by_cases hd : L = []
      · rw [hd] at hat ⊢
        simp at hat
        rcases hY with ⟨rfl,rfl,rfl⟩ | ⟨hxs,rfl,rfl⟩
        · simp [r50l1,b50l1,hEl,hj,hji,hat,foR]
        · simp [r50l1,b50l1,hEl,hj,hji,hat,foR]
      · have hne : foR A L ≠ [] := by simp [foR,hd]
        rw [owP_ne hne,owL_ne hne]
        rcases hY with ⟨rfl,rfl,rfl⟩ | ⟨hxs,rfl,rfl⟩
        · simp [r50l1,b50l1,hEl,hj,hji,hat]
        · simp [r50l1,b50l1,hEl,hj,hji,hat]
  | m :: rest,done,hd => by
    have hEl := hE.1
    obtain ⟨nl,hat⟩ := hE.2 j hj
    rw [hL] at hat
    have hji : (j : Int) < g.length := by omega
    have hm := hLt m (by rw [hd]; simp)
    have hen : encL nl false L = .sl false 2 (L.map mvP) := encL_ne (by rw [hd]; simp)
    rw [hen] at hat
    have hLl2 : L.length = done.length + (rest.length + 1) := by rw [hd]; simp
    have hlt : (done.length : Int) < L.length := by omega
    have hlt2 : done.length < L.length := by omega
    have hw : IntKind.i64.wrap ((done.length : Int) + 1) = (done.length : Int) + 1 := wr (by omega)
    have hdl : done.length ≤ 4294967295 := by omega
    have hat2 : nth (L.map mvP) done.length = some (mvP m) := by rw [hd]; exact mv_at done m rest
    have hsn : nth (A.map PV.i) m.2.toNat = some (.i (atA A m.2)) := i_nth A (k := m.2.toNat) (by omega)
    have hn := loopFo1 E C A g hE hA Y YL xs hY j hj hjb L hL hLt hLl rest (done ++ [m]) (by simpa using hd)
    have hrl : (A.map PV.i).length = g.length := by simpa using hA
    have hm1 := hm.1
    have hm2 := hm.2
    have hml : (L.map mvP).length = L.length := by simp
    clear hE
    generalize hM : L.map mvP = M at hat hat2 hml
    generalize hR : A.map PV.i = R at hsn hrl hn ⊢
    simp only [mvP] at hat2
    rw [loopI_eq]
    rcases hY with ⟨rfl,rfl,rfl⟩ | ⟨hxs,rfl,rfl⟩
    · by_cases hdn : done = []
      · subst hdn
        simp at hat2 hn hlt
        simp [r50l1,b50l1,hEl,hj,hji,hrl,hat,hat2,hml,hlt,hlt2,mvP,unAgg,hw,hdl,wr1,hsn,hm1,hm2,foR]
        simpa [foR,mvP,Int.add_assoc] using hn
      · have hne : foR A done ≠ [] := by simp [foR,hdn]
        rw [owP_ne hne,owL_ne hne]
        simp [r50l1,b50l1,hEl,hj,hji,hrl,hat,hat2,hml,hlt,hlt2,mvP,unAgg,hw,hdl,hsn,hm1,hm2]
        simpa [foR,mvP,Int.add_assoc] using hn
    · by_cases hdn : done = []
      · subst hdn
        simp at hat2 hn hlt
        simp [r50l1,b50l1,hEl,hj,hji,hrl,hat,hat2,hml,hlt,hlt2,mvP,unAgg,hw,hdl,wr1,hsn,hm1,hm2,foR]
        simpa [foR,mvP,Int.add_assoc] using hn
      · have hne : foR A done ≠ [] := by simp [foR,hdn]
        rw [owP_ne hne,owL_ne hne]
        simp [r50l1,b50l1,hEl,hj,hji,hrl,hat,hat2,hml,hlt,hlt2,mvP,unAgg,hw,hdl,hsn,hm1,hm2]
        simpa [foR,mvP,Int.add_assoc] using hn
theorem loopFo2 (E : List PV) (cls A : List Int) (g : Gr) (hE : EncR false E g) (hg : OkTo g) (hs : SmallG g) (h1k : g.length ≤ 1000) (hA : A.length = g.length) (hl : cls.length = g.length) : ∀ (k s : Nat) (F : Gr),s + k = g.length → F.length ≤ s → SmallG F → ∀ Y YL,OwnS 97 1 Y YL (encGs true true F) →
    ∃ F' Y' YL',SmallG F' ∧ OwnS 97 1 Y' YL' (encGs true true F') ∧
    loopI G [1,2,4,5,8,9] [2,4,8,14,97] c50l2 ⟨[(1,.sl false 1 (cls.map PV.i)),(2,.ref (0,2) 1 0 0),(4,.ref (0,4) 1 0 0),(5,.own (0,14) g.length),(8,.ref (0,8) 1 0 0),(9,.i s)],(2,.box [PV.sl false 1 E]) :: (4,.box [.nils]) :: (8,.box [Y]) :: (14,.row 1 (A.map PV.i)) :: YL,[]⟩ =
      some (.exit 2,⟨[(1,.sl false 1 (cls.map PV.i)),(2,.ref (0,2) 1 0 0),(4,.ref (0,4) 1 0 0),(5,.own (0,14) g.length),(8,.ref (0,8) 1 0 0),(9,.i g.length),(47,.b false)],(2,.box [PV.sl false 1 E]) :: (4,.box [.nils]) :: (8,.box [Y']) :: (14,.row 1 (A.map PV.i)) :: YL',[]⟩)
  | 0,s,F,hk,hF,hsF,Y,YL,hY => by
    obtain rfl : s = g.length := by omega
    refine ⟨F,Y,YL,hsF,hY, ?_⟩
    rw [loopI_eq]
    rcases hY with ⟨h1,rfl,rfl⟩ | ⟨h1,rfl,rfl⟩
    · simp [r50l2,b50l2,hl]
    · simp [r50l2,b50l2,hl]
  | k + 1,s,F,hk,hF,hsF,Y,YL,hY => by
    have hsg : s < g.length := by omega
    have hlt : (s : Int) < g.length := by omega
    have hw : IntKind.i64.wrap ((s : Int) + 1) = (s : Int) + 1 := wr (by omega)
    have hcs := i_nth cls (k := s) (by omega)
    have hCl : (cls.map PV.i).length = g.length := by simp [hl]
    by_cases hcl : cls.getD s 0 = (s : Int)
    · rw [hcl] at hcs
      have hLl : (g.getD s []).length ≤ 1048576 := hs.2 _ (by rw [List.getD_eq_getElem?_getD,List.getElem?_eq_getElem hsg,Option.getD_some]; exact List.getElem_mem hsg)
      have hLt := hg.row s
      generalize hL : g.getD s [] = L at hLl hLt
      have h0 := loopFo1 E (cls.map PV.i) A g hE hA Y YL _ hY s hsg (by omega) L hL hLt hLl L [] rfl
      simp only [List.nil_append,List.length_nil,show ((0 : Nat) : Int) = 0 from rfl,show foR A [] = [] from rfl,owP_n,owL_n] at h0
      have hnew : encGs true true (F ++ [tidyL (foR A L)]) = encGs true true F ++ [encL true true (tidyL (foR A L))] := by simp [encGs]
      have hnn : encGs true true (F ++ [tidyL (foR A L)]) ≠ [] := by rw [hnew]; simp
      have hFl : (encGs true true F).length = F.length := by simp
      have hYn : OwnS 97 1 (.own (0,97) (F.length + 1)) [(97,.row 1 (encGs true true F ++ [encL true true (tidyL (foR A L))]))] (encGs true true (F ++ [tidyL (foR A L)])) := by
        refine .inr ⟨hnn, ?_, ?_⟩
        · rw [hnew]; simp
        · rw [hnew]
      have hsF2 : SmallG (F ++ [tidyL (foR A L)]) := by
        refine ⟨by simp; omega,fun l hl => ?_⟩
        rcases List.mem_append.1 hl with hl | hl
        · exact hsF.2 l hl
        · rw [List.mem_singleton] at hl
          subst hl
          refine Nat.le_trans (tidyL_len _) ?_
          simp [foR]; omega
      obtain ⟨F',Y',YL',hsF',hY',hn⟩ := loopFo2 E cls A g hE hg hs h1k hA hl k (s + 1) (F ++ [tidyL (foR A L)]) (by omega) (by simp; omega) hsF2 _ _ hYn
      refine ⟨F',Y',YL',hsF',hY', ?_⟩
      simp only [Int.natCast_add,show ((1 : Nat) : Int) = 1 from rfl] at hn
      clear hY' hE hYn hsF2 hsF'
      have hso := eqSorted true (foR A L) (by simp [foR]; omega)
      generalize hpt : tidyL (foR A L) = T at *
      have hdl : F.length ≤ 4294967295 := by omega
      generalize hR : A.map PV.i = R at h0 hn ⊢
      generalize hC : cls.map PV.i = C at h0 hn hcs hCl ⊢
      rw [loopI_eq]
      by_cases hLe : L = []
      · subst hLe
        have hr0 : foR A [] = [] := rfl
        rw [hr0,tidyL_n] at hpt
        subst hpt
        simp only [hr0,encL_n] at hso
        rcases hY with ⟨h1,rfl,rfl⟩ | ⟨h1,rfl,rfl⟩
        · have hd0 : F = [] := by cases F with | nil => rfl | cons a b => simp [encGs] at h1
          subst hd0
          simp [hr0] at h0 hn
          simp [r50l2,b50l2,hlt,hsg,hCl,hcs,noShares_mv,hw,h0,hso,wr1]
          simpa [encGs] using hn
        · simp [hr0] at h0 hn
          simp [r50l2,b50l2,hlt,hsg,hCl,hcs,noShares_mv,hw,h0,hso,hdl]
          simpa [encGs] using hn
      · have hne : foR A L ≠ [] := by simp [foR,hLe]
        have hlt3 : encL true true T = .sl true 2 (T.map mvP) := encL_ne (by rw [← hpt]; exact tidyL_ne hne)
        rw [encL_ne hne] at hso
        rw [hlt3] at hn hso
        rw [owP_ne hne,owL_ne hne] at h0
        rcases hY with ⟨h1,rfl,rfl⟩ | ⟨h1,rfl,rfl⟩
        · have hd0 : F = [] := by cases F with | nil => rfl | cons a b => simp [encGs] at h1
          subst hd0
          simp at h0 hn
          simp [r50l2,b50l2,hlt,hsg,hCl,hcs,noShares_mv,hw,h0,fals_mvP,hso,wr1]
          simpa [encGs] using hn
        · simp at h0 hn
          simp [r50l2,b50l2,hlt,hsg,hCl,hcs,noShares_mv,hw,h0,fals_mvP,hso,hdl]
          simpa [encGs] using hn
    · obtain ⟨F',Y',YL',hsF',hY',hn⟩ := loopFo2 E cls A g hE hg hs h1k hA hl k (s + 1) F (by omega) (by omega) hsF Y YL hY
      refine ⟨F',Y',YL',hsF',hY', ?_⟩
      simp only [Int.natCast_add,show ((1 : Nat) : Int) = 1 from rfl] at hn
      generalize hR : A.map PV.i = R at hn ⊢
      generalize hC : cls.map PV.i = C at hn hcs hCl ⊢
      generalize cls.getD s 0 = v at *
      rw [loopI_eq]
      rcases hY with ⟨h1,rfl,rfl⟩ | ⟨h1,rfl,rfl⟩
      · simp [r50l2,b50l2,hlt,hsg,hCl,hcs,hw,hcl]
        simpa using hn
      · simp [r50l2,b50l2,hlt,hsg,hCl,hcs,hw,hcl]
        simpa using hn
theorem eqL4Fold (E : List PV) (cls : List Int) (g : Gr) (hE : EncR false E g) (hg : OkTo g) (hs : SmallG g) (h0 : 1 ≤ g.length) (h1k : g.length ≤ 1000) (hl : cls.length = g.length) (hc : ∀ s,s < g.length → ∃ u : Nat,cls.getD s 0 = u ∧ u ≤ s) :
    ∃ F,SmallG F ∧ callI G 50 [.agg [.sl false 1 E],.sl false 1 (cls.map PV.i)] [] = some (.agg [encM' true true F],[]) := by
  obtain ⟨A,n,hA,l0⟩ := loopFo0 E cls g.length h1k hl hc g.length 0 (List.replicate g.length 0) 0 (by omega) (by simp) (by omega) (by omega)
  obtain ⟨F,Y,YL,sF,hY,l2⟩ := loopFo2 E cls A g hE hg hs h1k hA hl g.length 0 [] (by omega) (by simp) ⟨by simp,fun l hl => by cases hl⟩ .nils [] (.inl ⟨rfl,rfl,rfl⟩)
  refine ⟨F,sF, ?_⟩
  have hz : (List.replicate g.length (0 : Int)).map PV.i = List.replicate g.length (PV.i 0) := by simp
  rw [hz] at l0
  have hCl : (cls.map PV.i).length = g.length := by simp [hl]
  have hgb : (g.length : Int) ≤ 4294967296 := by omega
  simp only [show ((0 : Nat) : Int) = 0 from rfl] at l0 l2
  have hns := noShares_encGs true F
  generalize hR : A.map PV.i = R at l0 l2
  generalize hC : cls.map PV.i = C at l0 l2 hCl ⊢
  rw [callI_eq]
  rcases hY with ⟨h1,rfl,rfl⟩ | ⟨h1,rfl,rfl⟩
  · have hd0 : F = [] := by cases F with | nil => rfl | cons a b => simp [encGs] at h1
    subst hd0
    simp [body1_eq _ _ (gp 50) g50,c50,a50,hCl,hgb,l0,l2,encM']
  · have hne : encM' true true F = .sl true 1 (encGs true true F) := by
      cases F with
      | nil => simp [encGs] at h1
      | cons a b => simp [encGs]
    rw [hne]
    simp [body1_eq _ _ (gp 50) g50,c50,a50,hCl,hgb,l0,l2]
theorem eqGraphFold (g : Gr) (hs : SmallG g) : ∃ F ok,SmallG F ∧ callI G 33 [encG false false g] [] = some (.tup [encG true true F,.b ok],[]) := by
  have hok := eqOkS g hs.fit
  cases hk : grOk g with
  | false =>
    rw [hk] at hok
    refine ⟨[],false,⟨by simp,fun l hl => by cases hl⟩, ?_⟩
    simp only [encG,encM_f] at hok ⊢
    rw [callI_eq]
    simp [body1_eq _ _ (gp 33) g33,c33,a33,hok,encM']
  | true =>
    rw [hk] at hok
    obtain ⟨h1,h2,h3⟩ := grOk_to hk
    have hc := eqL4Classes (encGs false false g) g (encR_G false false g) hs h1 h2 (by omega)
    obtain ⟨F,sF,hF⟩ := eqL4Fold (encGs false false g) (clsG g) g (encR_G false false g) h1 hs h2 (by omega) (clsG_len g) (fun s hs => clsG_le g hs)
    refine ⟨F,true,sF, ?_⟩
    have hns := noShares_encGs true F
    simp only [encG,encM_f] at hok ⊢
    generalize encGs false false g = E at *
    generalize (clsG g).map PV.i = C at hc hF
    rw [callI_eq]
    rcases encM_two true true F with ⟨e,_⟩ | e <;> rw [e] at hF ⊢ <;>
      simp [body1_eq _ _ (gp 33) g33,c33,a33,hok,hc,hF,hns]
end Go.Am
end
section
set_option linter.unusedSimpArgs false
set_option linter.unusedVariables false
namespace Go.Am
theorem alk_cov {cl : List Int} {g : Gr} {s t : Nat} : alk cl g s t ↔ cl.getD t 0 = cl.getD s 0 ∧ (∀ m ∈ g.getD s [],∃ k ∈ g.getD t [],k.1 = m.1 ∧ clAt cl k.2 = clAt cl m.2) ∧ (∀ m ∈ g.getD t [],∃ k ∈ g.getD s [],k.1 = m.1 ∧ clAt cl k.2 = clAt cl m.2) := by
  rw [← smS_iff]
  simp only [smS,Bool.and_eq_true,decide_eq_true_eq,covL_iff]
theorem both_row (a b : Gr) {s : Nat} (h : s < a.length) : (bothG a b).getD s [] = a.getD s [] := by
  unfold bothG
  rw [List.getD_eq_getElem?_getD,List.getElem?_append_left h,← List.getD_eq_getElem?_getD]
theorem both_row2 (a b : Gr) (s : Nat) : (bothG a b).getD (a.length + s) [] = shL a.length (b.getD s []) := by
  unfold bothG
  rw [List.getD_eq_getElem?_getD,List.getElem?_append_right (by omega),Nat.add_sub_cancel_left,List.getElem?_map,List.getD_eq_getElem?_getD]
  cases b[s]? with
  | none => rfl
  | some r => rfl
theorem both_len (a b : Gr) : (bothG a b).length = a.length + b.length := by simp [bothG]
theorem both_to {a b : Gr} (ha : OkTo a) (hb : OkTo b) : OkTo (bothG a b) := by
  intro l hl m hm
  rw [both_len]
  unfold bothG at hl
  rcases List.mem_append.1 hl with h | h
  · have := ha l h m hm; omega
  · obtain ⟨r,hr,rfl⟩ := List.mem_map.1 h
    simp only [shL,List.mem_map] at hm
    obtain ⟨y,hy,rfl⟩ := hm
    have := hb r hr y hy
    simp only; omega
def lsI (P : Nat → Bool) : Nat → Int → Int
  | 0,b => b
  | t + 1,b => lsI P t (if P t = true then (t : Int) else b)
def atP (cl : List Int) (n k : Nat) (s : Nat) : Bool := decide (cl.getD (n + s) 0 = cl.getD k 0)
def fS (cl : List Int) (n m k : Nat) : Option Int := if lsI (atP cl n k) m (-1) < 0 then none else some (lsI (atP cl n k) m (-1))
def coll (f : Nat → Option Int) : Nat → Nat → Option (List Int)
  | 0,_ => some []
  | n + 1,k => match f k with
    | none => none
    | some v => match coll f n (k + 1) with
      | none => none
      | some l => some (v :: l)
theorem coll_len {f : Nat → Option Int} : ∀ (n k : Nat) {l : List Int},coll f n k = some l → l.length = n
  | 0,_,l,h => by simp only [coll,Option.some.injEq] at h; rw [← h]; rfl
  | n + 1,k,l,h => by
    simp only [coll] at h
    split at h
    · cases h
    · split at h
      · cases h
      · rename_i v _ l' h2
        simp only [Option.some.injEq] at h
        rw [← h,List.length_cons,coll_len n (k + 1) h2]
end Go.Am
end
section
set_option maxRecDepth 10000
set_option maxHeartbeats 1000000
set_option linter.unusedSimpArgs false
set_option linter.unusedVariables false
namespace Go.Am
open Go.Proofs Go.Sort Go.Shelf
end Go.Am
end
section
set_option maxRecDepth 10000
set_option maxHeartbeats 1000000
set_option linter.unusedSimpArgs false
set_option linter.unusedVariables false
namespace Go.Am
open Go.Proofs Go.Sort Go.Shelf
end Go.Am
end
section
set_option maxRecDepth 10000
set_option maxHeartbeats 1000000
set_option linter.unusedSimpArgs false
set_option linter.unusedVariables false
namespace Go.Am
open Go.Proofs Go.Sort Go.Shelf
end Go.Am
end
section
set_option maxRecDepth 10000
set_option maxHeartbeats 1000000
set_option linter.unusedSimpArgs false
set_option linter.unusedVariables false
namespace Go.Am
open Go.Proofs Go.Sort Go.Shelf
end Go.Am
end
section
set_option maxRecDepth 10000
set_option maxHeartbeats 1000000
set_option linter.unusedSimpArgs false
set_option linter.unusedVariables false
namespace Go.Am
open Go.Proofs Go.Sort Go.Shelf
def bools (l : List Bool) : List PV := l.map PV.b
@[simp] theorem bools_len (l : List Bool) : (bools l).length = l.length := by simp [bools]
@[simp] theorem fals_bools : ∀ l : List Bool,fals (bools l) = bools l
  | [] => rfl
  | x :: l => by
    have := fals_bools l
    simp only [bools,List.map_cons,fals] at this ⊢
    rw [this]; rfl
end Go.Am
end
section
set_option linter.unusedSimpArgs false
set_option linter.unusedVariables false
namespace Go.Am
def lMN (nm : Int → Bool) (sync : Bool) (n : Nat) (m x : Mv) : List Mv :=
  if sync = true then (if x.1 = m.1 ∧ nm m.1 = true then [(m.1,m.2 * n + x.2)] else []) else (if m.1 ≠ 0 ∧ x.1 = -m.1 then [(0,m.2 * n + x.2)] else [])
def lM (nm : Int → Bool) (sync : Bool) (n t : Nat) (H : List Mv) (m : Mv) : List Mv := (if nm m.1 = true then [] else [(m.1,m.2 * n + t)]) ++ H.flatMap (lMN nm sync n m)
def lX (nm : Int → Bool) (n s : Nat) (x : Mv) : List Mv := if nm x.1 = true then [] else [(x.1,(s : Int) * n + x.2)]
def prL (nm : Int → Bool) (sync : Bool) (n s t : Nat) (Gs H : List Mv) : List Mv := Gs.flatMap (lM nm sync n t H) ++ H.flatMap (lX nm n s)
def prR (nm : Int → Bool) (sync : Bool) (g h : Gr) (s t : Nat) : List Mv := tidyL (prL nm sync h.length s t (g.getD s []) (h.getD t []))
def prRow (nm : Int → Bool) (sync : Bool) (g h : Gr) (s : Nat) (k : Nat) : Gr := (List.range k).map (prR nm sync g h s)
def prRows (nm : Int → Bool) (sync : Bool) (g h : Gr) : Nat → Gr
  | 0 => []
  | k + 1 => prRows nm sync g h k ++ prRow nm sync g h k h.length
def pairG (nm : Int → Bool) (sync : Bool) (g h : Gr) : Gr := prRows nm sync g h g.length
def pairs (nm : Int → Bool) (sync : Bool) (g h : Gr) : Gr × Bool := if grOk g && grOk h then made (pairG nm sync g h) else ([],false)
end Go.Am
end
section
set_option linter.unusedSimpArgs false
set_option linter.unusedVariables false
namespace Go.Am
def Bis (F : Gr) (B : Nat → Nat → Prop) : Prop := ∀ s t,B s t → s < F.length ∧ t < F.length ∧
  (∀ m ∈ F.getD s [],∃ k ∈ F.getD t [],k.1 = m.1 ∧ B m.2.toNat k.2.toNat) ∧ (∀ k ∈ F.getD t [],∃ m ∈ F.getD s [],m.1 = k.1 ∧ B m.2.toNat k.2.toNat)
theorem bis_it {F : Gr} {B : Nat → Nat → Prop} (hB : Bis F B) : ∀ (f : Nat) (cl : List Int),(∀ s t,B s t → cl.getD s 0 = cl.getD t 0) → ∀ s t,B s t → (itC F f cl).getD s 0 = (itC F f cl).getD t 0
  | 0,cl,h => h
  | f + 1,cl,h => by
    refine bis_it hB f (nextC cl F) fun s t hb => ?_
    obtain ⟨hs,ht,h1,h2⟩ := hB s t hb
    rw [nextC_at hs,nextC_at ht]
    have : nxt cl F s = nxt cl F t := nxt_eq.2 (alk_cov.2 ⟨(h s t hb).symm,fun m hm => ?_,fun k hk => ?_⟩)
    · rw [this]
    · obtain ⟨k,hk,e,hb2⟩ := h1 m hm
      exact ⟨k,hk,e,(h _ _ hb2).symm⟩
    · obtain ⟨m,hm,e,hb2⟩ := h2 k hk
      exact ⟨m,hm,e,h _ _ hb2⟩
theorem bis_cls {F : Gr} {B : Nat → Nat → Prop} (hB : Bis F B) {s t : Nat} (h : B s t) : (clsG F).getD s 0 = (clsG F).getD t 0 :=
  bis_it hB _ _ (fun s t _ => by rw [zer_at,zer_at]) s t h
end Go.Am
end
section
set_option maxHeartbeats 2000000
set_option linter.unusedSimpArgs false
set_option linter.unusedVariables false
namespace Go.Am
open Go.Proofs Go.Sort Go.Shelf
def iota (k : Nat) : List Int := (List.range k).map fun i : Nat => (i : Int)
@[simp] theorem iota_len (k : Nat) : (iota k).length = k := by simp [iota]
def SdG (g : Gr) : Prop := ∀ l ∈ g,Sd l
theorem SdG.row {g : Gr} (h : SdG g) (i : Nat) : Sd (g.getD i []) := by
  by_cases hi : i < g.length
  · rw [List.getD_eq_getElem?_getD,List.getElem?_eq_getElem hi,Option.getD_some]
    exact h _ (List.getElem_mem hi)
  · rw [List.getD_eq_getElem?_getD,List.getElem?_eq_none (by omega)]
    exact List.Pairwise.nil
end Go.Am
end
section
set_option maxRecDepth 10000
set_option maxHeartbeats 2000000
set_option linter.unusedSimpArgs false
set_option linter.unusedVariables false
namespace Go.Am
open Go.Proofs Go.Sort Go.Shelf
def tauL (l : List Mv) : List Mv := l.filter fun m => decide (m.1 = 0)
def tauG (g : Gr) : Gr := g.map tauL
def zs (l : List Int) : List Mv := l.map fun x => (0,x)
def slip (g : Gr) (L : List Int) : List Int := sortL (bfs (tauG g) (g.length + 1) 0 (addNew [] (zs L)))
end Go.Am
end
section
set_option linter.unusedSimpArgs false
set_option linter.unusedVariables false
namespace Go.Am
open Go.Proofs Go.Sort Go.Shelf
def rowZ (g : Gr) (x : Int) : List Mv := g.getD x.toNat []
inductive Tau (g : Gr) : Int → Int → Prop
  | refl (x : Int) : Tau g x x
  | step (x y : Int) (m : Mv) : m ∈ rowZ g x → m.1 = 0 → Tau g m.2 y → Tau g x y
inductive Wk (g : Gr) : Int → List Int → Int → Prop
  | nil (x y : Int) : Tau g x y → Wk g x [] y
  | cons (x u y : Int) (m : Mv) (w : List Int) : Tau g x u → m ∈ rowZ g u → Wk g m.2 w y → Wk g x (m.1 :: w) y
theorem Tau.trans {g : Gr} {x y z : Int} (h : Tau g x y) (k : Tau g y z) : Tau g x z := by
  induction h with
  | refl x => exact k
  | step x y m h1 h2 _ ih => exact .step x z m h1 h2 (ih k)
theorem Wk.pre {g : Gr} {x y z : Int} {w : List Int} (h : Tau g x y) (k : Wk g y w z) : Wk g x w z := by
  cases k with
  | nil _ _ t => exact .nil _ _ (h.trans t)
  | cons _ u _ m w t h1 h2 => exact .cons _ u _ m w (h.trans t) h1 h2
def hops (a : Int) (l : List Mv) : List Int := (l.filter fun m => decide (m.1 = a)).map Prod.snd
def aft (g : Gr) (S : List Int) (a : Int) : List Int := slip g (S.flatMap fun s => hops a (rowZ g s))
def behind (g : Gr) : List Int → List Int → List Int
  | S,[] => S
  | S,a :: w => behind g (aft g S a) w
end Go.Am
end
section
set_option maxRecDepth 10000
set_option maxHeartbeats 4000000
set_option linter.unusedSimpArgs false
set_option linter.unusedVariables false
namespace Go.Am
open Go.Proofs Go.Sort Go.Shelf
end Go.Am
end
section
set_option maxRecDepth 10000
set_option maxHeartbeats 4000000
set_option linter.unusedSimpArgs false
set_option linter.unusedVariables false
namespace Go.Am
open Go.Proofs Go.Sort Go.Shelf
end Go.Am
end
section
set_option maxRecDepth 10000
set_option maxHeartbeats 4000000
set_option linter.unusedSimpArgs false
set_option linter.unusedVariables false
namespace Go.Am
open Go.Proofs Go.Sort Go.Shelf
end Go.Am
end
section
set_option maxRecDepth 10000
set_option maxHeartbeats 4000000
set_option linter.unusedSimpArgs false
set_option linter.unusedVariables false
namespace Go.Am
open Go.Proofs Go.Sort Go.Shelf
end Go.Am
end
section
set_option maxHeartbeats 2000000
set_option linter.unusedSimpArgs false
set_option linter.unusedVariables false
namespace Go.Am
open Go.Proofs Go.Sort Go.Shelf
section
variable {nm : Int → Bool} {g h : Gr}
end
end Go.Am
end
section
set_option maxRecDepth 10000
set_option maxHeartbeats 1000000
set_option linter.unusedSimpArgs false
set_option linter.unusedVariables false
namespace Go.Am
open Go.Proofs Go.Sort Go.Shelf
end Go.Am
end
section
set_option maxRecDepth 10000
set_option maxHeartbeats 1000000
set_option linter.unusedSimpArgs false
set_option linter.unusedVariables false
namespace Go.Am
open Go.Proofs Go.Sort Go.Shelf
end Go.Am
end
section
set_option maxRecDepth 10000
set_option maxHeartbeats 1000000
set_option linter.unusedSimpArgs false
set_option linter.unusedVariables false
namespace Go.Am
open Go.Proofs Go.Sort Go.Shelf
end Go.Am
end
section
set_option maxRecDepth 10000
set_option maxHeartbeats 1000000
set_option linter.unusedSimpArgs false
set_option linter.unusedVariables false
namespace Go.Am
open Go.Proofs Go.Sort Go.Shelf
end Go.Am
end
section
set_option maxRecDepth 10000
set_option maxHeartbeats 1000000
set_option linter.unusedSimpArgs false
set_option linter.unusedVariables false
namespace Go.Am
open Go.Proofs Go.Sort Go.Shelf
end Go.Am
end
section
set_option maxRecDepth 10000
set_option maxHeartbeats 1000000
set_option linter.unusedSimpArgs false
set_option linter.unusedVariables false
namespace Go.Am
open Go.Proofs Go.Sort Go.Shelf
end Go.Am
end
section
set_option maxRecDepth 10000
set_option maxHeartbeats 1000000
set_option linter.unusedSimpArgs false
set_option linter.unusedVariables false
namespace Go.Am
open Go.Proofs Go.Sort Go.Shelf
end Go.Am
end
section
set_option maxRecDepth 10000
set_option maxHeartbeats 2000000
set_option linter.unusedSimpArgs false
set_option linter.unusedVariables false
namespace Go.Am
open Go.Proofs Go.Sort Go.Shelf
end Go.Am
end
section
set_option maxRecDepth 10000
set_option maxHeartbeats 1000000
set_option linter.unusedSimpArgs false
set_option linter.unusedVariables false
namespace Go.Am
open Go.Proofs Go.Sort Go.Shelf
def sh0 (a : Gr) : Gr := a.map (shL 0)
theorem sh0_len (a : Gr) : (sh0 a).length = a.length := by simp [sh0]
theorem sh0_eq (a : Gr) : sh0 a = a := by
  unfold sh0
  refine (List.map_congr_left fun x _ => ?_).trans (List.map_id _)
  unfold shL
  exact (List.map_congr_left fun m _ => by simp).trans (List.map_id _)
theorem loopGb0 (B : PV) (hB : ∀ f n,known f n B = true) (a : Gr) (ha : OkTo a) (h60 : a.length ≤ 60) (hs : SmallG a) : ∀ (rest done : Gr),a = done ++ rest → ∀ Y YL,OwnS 43 1 Y YL (encGs true true (sh0 done)) →
    ∃ Y' YL',OwnS 43 1 Y' YL' (encGs true true (sh0 a)) ∧
    loopI G [2,3,4,6,32,33,34] [2,3,4,6,43,61] c9l0 ⟨[(2,.ref (0,2) 1 0 0),(3,.ref (0,3) 1 0 0),(4,.ref (0,4) 1 0 0),(6,.ref (0,6) 1 0 0),(32,.sl false 1 (encGs false false a)),(33,.i a.length),(34,.i done.length)],(2,.box [.sl false 1 (encGs false false a)]) :: (3,.box [B]) :: (4,.box [.nils]) :: (6,.box [Y]) :: YL,[]⟩ =
      some (.exit 0,⟨[(2,.ref (0,2) 1 0 0),(3,.ref (0,3) 1 0 0),(4,.ref (0,4) 1 0 0),(6,.ref (0,6) 1 0 0),(32,.sl false 1 (encGs false false a)),(33,.i a.length),(34,.i a.length),(35,.b false)],(2,.box [.sl false 1 (encGs false false a)]) :: (3,.box [B]) :: (4,.box [.nils]) :: (6,.box [Y']) :: YL',[]⟩)
  | [],done,hd,Y,YL,hY => by
    rw [List.append_nil] at hd
    subst hd
    refine ⟨Y,YL,hY, ?_⟩
    generalize encGs false false a = E
    rw [loopI_eq]
    rcases hY with ⟨h1,rfl,rfl⟩ | ⟨h1,rfl,rfl⟩
    · simp [r9l0,b9l0,hB]
    · simp [r9l0,b9l0,hB]
  | x :: rest,done,hd,Y,YL,hY => by
    have hrl : a.length = done.length + (rest.length + 1) := by rw [hd]; simp
    have hlt : (done.length : Int) < a.length := by omega
    have hlt2 : done.length < a.length := by omega
    have hw : IntKind.i64.wrap ((done.length : Int) + 1) = (done.length : Int) + 1 := wr (by omega)
    have hdl : done.length ≤ 4294967295 := by omega
    have hat : nth (encGs false false a) done.length = some (.sl false 2 (x.map mvP)) := by rw [hd]; simpa using gr_at false false done x rest
    have hEl : (encGs false false a).length = a.length := by simp
    have hxa : x ∈ a := by rw [hd]; simp
    have hsh := eqShift 0 (by omega) x (fun m hm => by have := ha x hxa m hm; omega) (by have := hs.2 x hxa; omega)
    have hnew : encGs true true (sh0 (done ++ [x])) = encGs true true (sh0 done) ++ [encL true true (shL 0 x)] := by simp [encGs,sh0]
    have hDl : (encGs true true (sh0 done)).length = done.length := by simp [sh0]
    have hYn : OwnS 43 1 (.own (0,43) (done.length + 1)) [(43,.row 1 (encGs true true (sh0 done) ++ [encL true true (shL 0 x)]))] (encGs true true (sh0 (done ++ [x]))) := by
      refine .inr ⟨by rw [hnew]; simp, ?_, ?_⟩
      · rw [hnew]; simp [sh0]
      · rw [hnew]
    obtain ⟨Y',YL',hY',hn⟩ := loopGb0 B hB a ha h60 hs rest (done ++ [x]) (by simpa using hd) _ _ hYn
    refine ⟨Y',YL',hY', ?_⟩
    clear hY'
    simp only [List.length_append,List.length_cons,List.length_nil,Int.natCast_add,show ((0 + 1 : Nat) : Int) = 1 from rfl] at hn
    have hd0 : encGs true true (sh0 done) = [] → done = [] := fun e => by
      have := congrArg List.length e
      rw [hDl] at this
      exact List.length_eq_zero_iff.1 this
    have hns := noShares_mv (shL 0 x)
    generalize hD : encGs true true (sh0 done) = D at hY hn hDl hd0
    generalize hE : encGs false false a = E at hat hEl hn ⊢
    rw [loopI_eq]
    rcases hY with ⟨h1,rfl,rfl⟩ | ⟨h1,rfl,rfl⟩
    · have hd1 := hd0 h1
      subst hd1
      subst h1
      simp only [List.length_nil,show ((0 : Nat) : Int) = 0 from rfl] at hat hlt hlt2
      rcases encL_two true true (shL 0 x) with ⟨e,_⟩ | e
      · rw [e] at hsh hn
        simp at hn
        simp [r9l0,b9l0,hB,hlt,hlt2,hat,hEl,hsh,wr1]
        exact hn
      · rw [e] at hsh hn
        generalize (shL 0 x).map mvP = Q at hsh hn hns
        simp at hn
        simp [r9l0,b9l0,hB,hlt,hlt2,hat,hEl,hsh,wr1,hns]
        exact hn
    · rcases encL_two true true (shL 0 x) with ⟨e,_⟩ | e
      · rw [e] at hsh hn
        simp [r9l0,b9l0,hB,hlt,hlt2,hat,hEl,hsh,hDl,hdl,hw]
        exact hn
      · rw [e] at hsh hn
        generalize (shL 0 x).map mvP = Q at hsh hn hns
        simp [r9l0,b9l0,hB,hlt,hlt2,hat,hEl,hsh,hDl,hdl,hw,hns]
        exact hn
theorem loopGb1 (EA : List PV) (n : Nat) (hEA : EA.length = n) (hn60 : n ≤ 60) (XA : List PV) (hXA : XA.length = n) (b : Gr) (hb : OkTo b) (h60 : b.length ≤ 60) (hs : SmallG b) : ∀ (rest done : Gr),b = done ++ rest →
    loopI G [2,4,6,47,48,49] [2,4,6,43,61] c9l1 ⟨[(2,.ref (0,2) 1 0 0),(4,.ref (0,4) 1 0 0),(6,.ref (0,6) 1 0 0),(47,.sl false 1 (encGs false false b)),(48,.i b.length),(49,.i done.length)],[(2,.box [.sl false 1 EA]),(4,.box [.nils]),(6,.box [.own (0,43) (n + done.length)]),(43,.row 1 (XA ++ encGs true true (done.map (shL n))))],[]⟩ =
      some (.exit 2,⟨[(2,.ref (0,2) 1 0 0),(4,.ref (0,4) 1 0 0),(6,.ref (0,6) 1 0 0),(47,.sl false 1 (encGs false false b)),(48,.i b.length),(49,.i b.length),(50,.b false)],[(2,.box [.sl false 1 EA]),(4,.box [.nils]),(6,.box [.own (0,43) (n + b.length)]),(43,.row 1 (XA ++ encGs true true (b.map (shL n))))],[]⟩)
  | [],done,hd => by
    rw [List.append_nil] at hd
    subst hd
    generalize XA ++ encGs true true (b.map (shL n)) = Q
    generalize encGs false false b = E
    rw [loopI_eq]
    simp [r9l1,b9l1]
  | x :: rest,done,hd => by
    have hrl : b.length = done.length + (rest.length + 1) := by rw [hd]; simp
    have hlt : (done.length : Int) < b.length := by omega
    have hlt2 : done.length < b.length := by omega
    have hw : IntKind.i64.wrap ((done.length : Int) + 1) = (done.length : Int) + 1 := wr (by omega)
    have hdl : n + done.length ≤ 4294967295 := by omega
    have hat : nth (encGs false false b) done.length = some (.sl false 2 (x.map mvP)) := by rw [hd]; simpa using gr_at false false done x rest
    have hEl : (encGs false false b).length = b.length := by simp
    have hxb : x ∈ b := by rw [hd]; simp
    have hsh := eqShift n (by omega) x (fun m hm => by have := hb x hxb m hm; omega) (by have := hs.2 x hxb; omega)
    have hn := loopGb1 EA n hEA hn60 XA hXA b hb h60 hs rest (done ++ [x]) (by simpa using hd)
    have hnew : XA ++ encGs true true ((done ++ [x]).map (shL n)) = (XA ++ encGs true true (done.map (shL n))) ++ [encL true true (shL n x)] := by simp [encGs]
    have hDl : (XA ++ encGs true true (done.map (shL n))).length = n + done.length := by simp [hXA]
    rw [hnew] at hn
    simp only [List.length_append,List.length_cons,List.length_nil,Int.natCast_add,show ((0 + 1 : Nat) : Int) = 1 from rfl] at hn
    have hna : n + (done.length + (0 + 1)) = n + done.length + 1 := by omega
    rw [hna] at hn
    have hns := noShares_mv (shL n x)
    generalize hF : XA ++ encGs true true (b.map (shL n)) = F at hn ⊢
    generalize hD : XA ++ encGs true true (done.map (shL n)) = D at hn hDl ⊢
    generalize hE : encGs false false b = E at hat hEl hn ⊢
    rw [loopI_eq]
    rcases encL_two true true (shL n x) with ⟨e,_⟩ | e
    · rw [e] at hsh hn
      simp [r9l1,b9l1,hlt,hlt2,hat,hEl,hEA,hsh,hDl,hdl,hw]
      exact hn
    · rw [e] at hsh hn
      generalize (shL n x).map mvP = Q at hsh hn hns
      simp [r9l1,b9l1,hlt,hlt2,hat,hEl,hEA,hsh,hDl,hdl,hw,hns]
      exact hn
def gbOk (a b : Gr) : Bool := grOk a && (grOk b && decide (a.length + b.length ≤ 60))
theorem eqGBothI (a b : Gr) (hsA : SmallG a) (hsB : SmallG b) (hfA : FitG a) (hfB : FitG b) :
    callI G 9 [.agg [.sl false 1 (encGs false false a)],.agg [.sl false 1 (encGs false false b)]] [] = some (.tup [.agg [if gbOk a b = true then .sl true 1 (encGs true true (bothG a b)) else .nils],.b (gbOk a b)],[]) := by
  have h1 := eqOkI a hfA
  have h2 := eqOkI b hfB
  simp only [encG,encM_f] at h1 h2
  have hE1 : (encGs false false a).length = a.length := by simp
  have hE2 : (encGs false false b).length = b.length := by simp
  have hsA1 := hsA.1
  have hsB1 := hsB.1
  have hw : IntKind.i64.wrap ((a.length : Int) + b.length) = (a.length : Int) + b.length := wr (by omega)
  rw [callI_eq]
  cases c1 : grOk a with
  | false =>
    rw [c1] at h1
    simp [body1_eq _ _ (gp 9) g9,c9,a9,h1,gbOk,c1]
  | true =>
    rw [c1] at h1
    cases c2 : grOk b with
    | false =>
      rw [c2] at h2
      simp [body1_eq _ _ (gp 9) g9,c9,a9,h1,h2,gbOk,c1,c2]
    | true =>
      rw [c2] at h2
      by_cases c3 : a.length + b.length ≤ 60
      · have c4 : ¬ (60 : Int) < (a.length : Int) + b.length := by omega
        obtain ⟨p1,p2,p3⟩ := grOk_to c1
        obtain ⟨q1,q2,q3⟩ := grOk_to c2
        obtain ⟨Y,YL,hY,l0⟩ := loopGb0 (.sl false 1 (encGs false false b)) (by intro f n; simp) a p1 p3 hsA a [] rfl .nils [] (.inl ⟨rfl,rfl,rfl⟩)
        have l1 := loopGb1 (encGs false false a) a.length (by simp) p3 (encGs true true (sh0 a)) (by simp [sh0]) b q1 q3 hsB b [] rfl
        have hne : encGs true true (sh0 a) ≠ [] := by
          intro e
          have := congrArg List.length e
          rw [encGs_len,sh0_len] at this
          have h0 : a.length = 0 := this
          omega
        have hg : gbOk a b = true := by simp [gbOk,c1,c2,c3]
        have hbo : encGs true true (sh0 a) ++ encGs true true (b.map (shL a.length)) = encGs true true (bothG a b) := by rw [sh0_eq,bothG,encGs_app]
        rw [hg]
        rcases hY with ⟨q,_⟩ | ⟨_,rfl,rfl⟩
        · exact absurd q hne
        · simp only [List.length_nil,show ((0 : Nat) : Int) = 0 from rfl,List.map_nil,show encGs true true [] = [] from rfl,List.append_nil,Nat.add_zero,encGs_len,sh0_len] at l0 l1
          rw [hbo] at l1
          have hBl : (encGs true true (bothG a b)).length = a.length + b.length := by rw [encGs_len,both_len]
          generalize encGs true true (bothG a b) = Z at l1 hBl ⊢
          generalize encGs true true (sh0 a) = Z0 at l0 l1
          generalize encGs false false a = E1 at h1 hE1 l0 l1 ⊢
          generalize encGs false false b = E2 at h2 hE2 l0 l1 ⊢
          simp [body1_eq _ _ (gp 9) g9,c9,a9,h1,h2,hE1,hE2,hw,c4,l0,l1,hBl]
      · have c4 : (60 : Int) < (a.length : Int) + b.length := by omega
        have hg : gbOk a b = false := by simp [gbOk,c3]
        rw [hg]
        simp [body1_eq _ _ (gp 9) g9,c9,a9,h1,h2,hE1,hE2,hw,c4]
end Go.Am
end
