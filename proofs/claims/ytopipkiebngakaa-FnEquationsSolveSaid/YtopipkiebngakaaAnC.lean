/- An abstract machine; its steps are those of the model. -/
import Derived.Test.YtopipkiebngakaaAnB
import Derived.Orders
import GoSem.ClaimChange
import Derived.ProofKit
section
/- Regions whose order is drawn. -/
set_option linter.unusedSimpArgs false
set_option linter.unusedVariables false
namespace Go.Am
open Go.RowKit
section
variable {call : CallF}
def St.wr (s : St) (r : Regs) : St := { s with r := r }
theorem wr_get (s : St) (r : Regs) : (s.wr r).get = s.get := rfl
theorem wr_set (s : St) (r : Regs) (id : Id) (ob : OB) : (s.wr r).set id ob = (s.set id ob).wr r := by
  unfold St.set St.wr; split <;> rfl
theorem wr_sets (r : Regs) : ∀ (ws : List (Id × OB)) (s : St),(s.wr r).sets ws = (s.sets ws).wr r
  | [],_ => rfl
  | (id,ob) :: ws,s => by simp only [St.sets]; rw [wr_set,wr_sets r ws]
theorem callBy_wr {n : Nat} {s s1 : St} {f : Nat} {zs : List PV} {v : PV} (r : Regs) (e : callBy call n s f zs = some (v,s1)) : callBy call n (s.wr r) f zs = some (v,s1.wr r) := by
  unfold callBy at e ⊢
  split at e
  · rename_i h
    rw [if_pos h]
    split at e
    · rename_i q o' hc
      simp only [Option.some.injEq,Prod.mk.injEq] at e
      obtain ⟨rfl,rfl⟩ := e
      first | rfl | rw [hc]
    · cases e
  · rename_i h
    rw [if_neg h]
    split at e
    · rename_i h2
      rw [if_pos h2]
      split at e
      · rename_i q o' hc
        simp only [Option.some.injEq,Prod.mk.injEq] at e
        obtain ⟨rfl,rfl⟩ := e
        have hc' : call f zs ((s.wr r).o ++ [(s.wr r).l]) = some (q,o') := hc
        rw [hc']; rfl
      · cases e
    · rename_i h2
      rw [if_neg h2]
      split at e
      · rename_i q o' hc
        simp only [Option.some.injEq,Prod.mk.injEq] at e
        obtain ⟨rfl,rfl⟩ := e
        have hc' : call f zs ((s.wr r).o ++ [[]]) = some (q,o') := hc
        rw [hc']; rfl
      · cases e
theorem callBy_r {n : Nat} {s s1 : St} {f : Nat} {zs : List PV} {v : PV} (e : callBy call n s f zs = some (v,s1)) : s1.r = s.r := by
  unfold callBy at e
  repeat' split at e
  all_goals first
    | (cases e; done)
    | (simp only [Option.some.injEq,Prod.mk.injEq] at e; obtain ⟨_,rfl⟩ := e; rfl)
theorem freshAll_wr (r : Regs) (s : St) : ∀ ws : List (Id × OB),freshAll (s.wr r) ws = freshAll s ws
  | [] => rfl
  | (id,ob) :: ws => by simp only [freshAll,wr_get,freshAll_wr r s ws]
theorem land_wr {n : Nat} {d : Option Nat} {v : PV} {s s1 : St} (r : Regs) (e : land n d v s = some s1) : ∃ y,s1.r = (s.put d y).r ∧ land n d v (s.wr r) = some (s1.wr ((s.wr r).put d y).r) := by
  unfold land at e ⊢
  simp only at e ⊢
  rw [freshAll_wr]
  split at e
  · rename_i h
    simp only [Option.some.injEq] at e
    subst e
    refine ⟨(impo n (d.getD 999) v 0).1, ?_, ?_⟩
    · cases d with
      | none => simp only [St.put,sets_r]
      | some t => simp only [St.put,sets_r]
    · rw [if_pos h,wr_sets]
      cases d <;> rfl
  · cases e
theorem stepGo_wr {s s1 : St} {ai : AI} (r : Regs) (hx : ∀ x ∈ ai.xs,(s.wr r).ev x = s.ev x) (e : stepGo call s ai = some s1) :
    ∃ y,s1.r = (s.put ai.d y).r ∧ stepGo call (s.wr r) ai = some (s1.wr ((s.wr r).put ai.d y).r) := by
  have hm : ai.xs.map (s.wr r).ev = ai.xs.map s.ev := List.map_congr_left hx
  unfold stepGo at e ⊢
  split at e
  · rename_i byref leaky hop
    rw [hm]
    unfold stepCall at e ⊢
    split at e
    · rename_i f caps xs hxs
      simp only [wr_get] at e ⊢
      split at e
      · cases e
      · rename_i ys hys
        try simp only [hys]
        split at e
        · rename_i hrs
          try simp only [hrs]
          split at e
          · rename_i q s2 hc
            have := callBy_wr r hc
            have hlen : (s.wr r).o.length = s.o.length := rfl
            rw [hlen,this]
            dsimp only
            obtain ⟨y,h1,h2⟩ := land_wr r e
            refine ⟨y, ?_, ?_⟩
            · rw [h1]; cases hd : ai.d <;> simp only [St.put,callBy_r hc]
            · rw [h2]
              congr 2
              cases hd : ai.d <;> rfl
          · cases e
        · rename_i rs hne
          try simp only [hne]
          split at e
          · rename_i q s2 hc
            have hc' := callBy_wr r hc
            rw [← wr_sets] at hc'
            have hlen : (s.wr r).o.length = s.o.length := rfl
            rw [hlen,hc']
            dsimp only
            have hr2 : s2.r = s.r := (callBy_r hc).trans (sets_r _ _)
            split at e
            · rename_i hl
              simp only [hl,if_true]
              obtain ⟨y,h1,h2⟩ := land_wr r e
              refine ⟨y, ?_, ?_⟩
              · rw [h1]; cases hd : ai.d <;> simp only [St.put,hr2]
              · rw [h2]
                congr 2
                cases hd : ai.d <;> rfl
            · rename_i hl
              simp only [hl]
              split at e
              · rename_i hn
                simp only [hn,if_true]
                obtain ⟨y,h1,h2⟩ := land_wr r e
                refine ⟨y, ?_, ?_⟩
                · rw [h1]; cases hd : ai.d <;> simp only [St.put,sets_r,hr2]
                · have : (s2.wr r).sets (thaws (rowIdA s.get byref 0 xs)) = (s2.sets (thaws (rowIdA s.get byref 0 xs))).wr r := wr_sets _ _ _
                  simp only [Bool.false_eq_true,if_false]
                  rw [this,h2]
                  congr 2
                  cases hd : ai.d <;> rfl
              · cases e
          · cases e
    · cases e
  · rename_i hop
    rw [hm]
    simp only [wr_get]
    split at e
    · rename_i v ws hc
      simp only [Option.some.injEq] at e
      subst e
      refine ⟨v, ?_, ?_⟩
      · cases hd : ai.d <;> simp only [St.put,sets_r]
      · have hlen : (s.wr r).o.length = s.o.length := rfl
        rw [hlen,hc]
        dsimp only
        rw [wr_sets]
        cases hd : ai.d <;> rfl
    · cases e
end
end Go.Am
end
section
/- Regions whose order is drawn: every order comes to what the machine's order comes to. -/
set_option linter.unusedSimpArgs false
set_option linter.unusedVariables false
namespace Go.Am
open Go.RowKit
def isRd : K → Bool
  | .move | .pick | .build _ _ | .load _ _ | .bin _ | .beq | .bne | .not | .neg | .faddr _ | .iaddr _ | .iarr _ _ | .idx _ _ _ | .istr | .fld _ _ | .ext _ | .len | .lens | .mkfunc _ | .conv _ | .min2 | .max2 | .nck | .isnil | .meq _ | .bstr | .sstr _ _ => true
  | _ => false
set_option maxHeartbeats 1000000 in
theorem rd_core1 {n d d' : Nat} {g : Id → Option OB} {k : K} {ps : List PV} {y : PV} {ws : List (Id × OB)} (h : isRd k = true) (e : core1 n d g k ps = some (y,ws)) : ws = [] ∧ core1 n d' g k ps = some (y,ws) := by
  unfold core1 at e
  split at e <;> first
    | (simp [isRd] at h; done)
    | ((repeat' split at e) <;> first
        | (cases e; done)
        | (simp only [Option.some.injEq,Prod.mk.injEq] at e
           obtain ⟨rfl,rfl⟩ := e
           refine ⟨rfl, ?_⟩
           first
             | (simp only [core1, *]; done)
             | (simp only [core1, *]; simp; done)
             | (simp_all [core1]; done)
             | (simp_all [core1]; have hh := ‹_ ∧ _ ∧ ib _ _ = true›; rw [← hh.2.1]; exact hh.2.2)))
def isPure : K → Bool
  | .move | .pick | .build _ _ | .bin _ | .beq | .bne | .not | .neg | .idx _ _ _ | .istr | .fld _ _ | .ext _ | .lens | .mkfunc _ | .conv _ | .min2 | .max2 | .isnil | .meq _ | .sstr _ _ => true
  | _ => false
set_option maxHeartbeats 1000000 in
theorem pure_core1 {n n' d d' : Nat} {g g' : Id → Option OB} {k : K} {ps : List PV} {y : PV} {ws : List (Id × OB)} (h : isPure k = true) (e : core1 n d g k ps = some (y,ws)) : core1 n' d' g' k ps = some (y,ws) := by
  unfold core1 at e
  split at e <;> first
    | (simp [isPure] at h; done)
    | ((repeat' split at e) <;> first
        | (cases e; done)
        | (simp only [Option.some.injEq,Prod.mk.injEq] at e
           obtain ⟨rfl,rfl⟩ := e
           first
             | (simp only [core1, *]; done)
             | (simp only [core1, *]; simp; done)
             | (simp_all [core1]; done)))
theorem chk_spec {n d : Nat} {g : Id → Option OB} {k : K} {ps : List PV} {y : PV} {ws : List (Id × OB)} (e : core n d g (.chk k) ps = some (y,ws)) : ws = [] ∧ ∃ x xs,ps = x :: xs ∧ core1 n d g k xs = some (x,[]) := by
  unfold core at e
  split at e
  · rename_i op x xs hk
    injection hk with hk
    subst hk
    split at e
    · rename_i h
      simp only [Option.some.injEq,Prod.mk.injEq] at e
      exact ⟨e.2.symm,x,xs,rfl,h⟩
    · cases e
  · rename_i op xs hn
    unfold core1 at e
    split at e <;> first | (cases e; done) | (rename_i h; cases h; done) | (rename_i h _; cases h; done) | (rename_i h _ _; cases h; done) | skip
    all_goals (exfalso; first | exact K.noConfusion (by assumption) | skip)
def opdTmps : List Opd → List Nat
  | [] => []
  | .t n :: r => n :: opdTmps r
  | _ :: r => opdTmps r
def dstOf (os : Array Oper) (i : Nat) : Option Nat := (os[i]?).bind (·.dst)
def afterOf (os : Array Oper) (i : Nat) : List Nat := match os[i]? with
  | some o => (o.after.toList.filter fun e => Region.binds .any e).map (·.on)
  | none => []
def anc (os : Array Oper) : Nat → Nat → Nat → Bool
  | 0,_,_ => false
  | k + 1,i,j => (afterOf os i).any fun q => q == j || anc os k q j
def opK (as : List AI) (p : Nat) : K := match as[p]? with | some ai => ai.op | none => .move
def opX (as : List AI) (p : Nat) : List Opd := match as[p]? with | some ai => ai.xs | none => []
def opG (as : List AI) (p : Nat) : List Nat := match as[p]? with | some ai => (match ai.g with | some (j,_) => [j] | none => []) | none => []
def isEff (as : List AI) (p : Nat) : Bool := !isChk (opK as p) && !isRd (opK as p)
structure Plan (P : Program) (N : Nat) (os : Array Oper) (as : List AI) (ps : Nat → Nat) : Prop where
  op : ∀ i o,os[i]? = some o → ∃ ai,as[ps i]? = some ai ∧ okAI P N os ai o = true ∧ isChk ai.op = false
  pos : ∀ p ai,as[p]? = some ai → (isChk ai.op = true ∧ ai.d = none) ∨ ∃ i o,os[i]? = some o ∧ ps i = p
  inj : ∀ i j,i < os.size → j < os.size → ps i = ps j → i = j
  dst : ∀ i j t,dstOf os i = some t → dstOf os j = some t → i = j
  dep : ∀ i j t,dstOf os j = some t → t ∈ opdTmps (opX as (ps i)) ++ opG as (ps i) → i < os.size → anc os os.size i j = true ∨ anc os os.size j i = true
  top : ∀ i q,i < os.size → q ∈ afterOf os i → q < os.size ∧ ps q < ps i
  aft : ∀ i e,i < os.size → e < os.size → isEff as (ps e) = true → ps e < ps i → anc os os.size i e = true
  fwd : ∀ i e,i < os.size → e < os.size → isEff as (ps e) = true → isEff as (ps i) = false → ps i < ps e → anc os os.size e i = true ∨
    (∃ r a b t,as[r]? = some a ∧ as[ps i]? = some b ∧ b.d = some t ∧ ps e < r ∧ (∀ q,ps e < q → q < r → isEff as q = false) ∧ a.op = .chk b.op ∧ a.xs = .t t :: b.xs ∧ a.g = b.g ∧ ∀ j u,dstOf os j = some u → u ∈ opdTmps (opX as (ps i)) ++ opG as (ps i) → anc os os.size j i = true → r ≤ ps j) ∨ isPure (opK as (ps i)) = true
section
variable {P : Program} {N n : Nat} {os : Array Oper} {as : List AI} {ps : Nat → Nat} {call : CallF}
theorem anc_pos (pl : Plan P N os as ps) : ∀ (k i j : Nat),i < os.size → anc os k i j = true → j < os.size ∧ ps j < ps i
  | 0,_,_,_,h => by simp [anc] at h
  | k + 1,i,j,hi,h => by
    simp only [anc,List.any_eq_true,Bool.or_eq_true,beq_iff_eq] at h
    obtain ⟨q,hq,h⟩ := h
    obtain ⟨h1,h2⟩ := pl.top i q hi hq
    rcases h with rfl | h
    · exact ⟨h1,h2⟩
    · obtain ⟨h3,h4⟩ := anc_pos pl k q j h1 h
      exact ⟨h3,by omega⟩
def Clo (os : Array Oper) (listed : Array Bool) : Prop := ∀ i,i < os.size → listed.getD i false = true → ∀ q ∈ afterOf os i,listed.getD q false = true
theorem anc_listed (pl : Plan P N os as ps) {listed : Array Bool} (hc : Clo os listed) : ∀ (k i j : Nat),i < os.size → (∀ q ∈ afterOf os i,listed.getD q false = true) → anc os k i j = true → listed.getD j false = true
  | 0,_,_,_,_,h => by simp [anc] at h
  | k + 1,i,j,hi,ha,h => by
    simp only [anc,List.any_eq_true,Bool.or_eq_true,beq_iff_eq] at h
    obtain ⟨q,hq,h⟩ := h
    rcases h with rfl | h
    · exact ha _ hq
    · have hq1 := (pl.top i q hi hq).1
      exact anc_listed pl hc k q j hq1 (hc q hq1 (ha q hq)) h
theorem trace : ∀ {as : List AI} {s s' : St},steps call s as = some s' → ∃ st : Nat → St,st 0 = s ∧ st as.length = s' ∧ ∀ p ai,as[p]? = some ai → stepI call (st p) ai = some (st (p + 1))
  | [],s,s',e => by
    simp only [steps,Option.some.injEq] at e
    exact ⟨fun _ => s,rfl,e,fun p ai h => by simp at h⟩
  | a :: as,s,s',e => by
    simp only [steps] at e
    split at e
    · rename_i s1 h1
      obtain ⟨st,h2,h3,h4⟩ := trace e
      refine ⟨fun p => match p with | 0 => s | q + 1 => st q,rfl,h3,fun p ai h => ?_⟩
      cases p with
      | zero =>
        simp only [List.getElem?_cons_zero,Option.some.injEq] at h
        subst h
        simpa [h2] using h1
      | succ q => exact h4 q ai (by simpa using h)
    · cases e
def gate (s : St) (ai : AI) : Option Bool := match ai.g with
  | none => some true
  | some (j,w) => match getR s.r j with
    | .sc (.bool b) => some (b == w)
    | .non => some false
    | _ => none
theorem stepI_t {s : St} {ai : AI} (h : gate s ai = some true) : stepI call s ai = stepGo call s ai := by
  rw [stepI_eq]
  unfold gate at h
  split at h
  · rename_i hg; rw [hg]
  · rename_i j w hg
    rw [hg]
    simp only
    split at h
    · rename_i b hb
      simp only [Option.some.injEq] at h
      have := eq_of_beq h
      subst this
      rw [hb]; simp
    · cases h
    · cases h
theorem stepI_f {s : St} {ai : AI} (h : gate s ai = some false) : stepI call s ai = some (s.put ai.d .non) := by
  rw [stepI_eq]
  unfold gate at h
  split at h
  · cases h
  · rename_i j w hg
    rw [hg]
    simp only
    split at h
    · rename_i b hb
      simp only [Option.some.injEq,beq_eq_false_iff_ne] at h
      rw [hb]; simp [h]
    · rename_i hb
      rw [hb]
    · cases h
theorem gate_some {s s1 : St} {ai : AI} (e : stepI call s ai = some s1) : ∃ b,gate s ai = some b := by
  rw [stepI_eq] at e
  unfold gate
  cases hg : ai.g with
  | none => exact ⟨_,rfl⟩
  | some jw =>
    obtain ⟨j,w⟩ := jw
    rw [hg] at e
    simp only at e ⊢
    split at e
    · rename_i b hb; rw [hb]; exact ⟨_,rfl⟩
    · rename_i hb; rw [hb]; exact ⟨_,rfl⟩
    · cases e
theorem gate_eq {s s1 : St} {ai : AI} (h : ∀ j w,ai.g = some (j,w) → getR s1.r j = getR s.r j) : gate s1 ai = gate s ai := by
  unfold gate
  cases hg : ai.g with
  | none => rfl
  | some jw =>
    obtain ⟨j,w⟩ := jw
    simp only
    rw [h j w hg]
theorem go_shape {s s1 : St} {ai : AI} (e : stepGo call s ai = some s1) : ∃ y,s1.r = (s.put ai.d y).r := by
  obtain ⟨y,h,_⟩ := stepGo_wr (call := call) s.r (fun _ _ => rfl) e
  exact ⟨y,h⟩
theorem rd_shape {s s1 : St} {ai : AI} (h : isRd ai.op = true ∨ isChk ai.op = true) (e : stepGo call s ai = some s1) : s1.l = s.l ∧ s1.o = s.o := by
  unfold stepGo at e
  split at e
  · rename_i b l hop
    rw [hop] at h
    simp [isRd,isChk] at h
  · split at e
    · rename_i v ws hc
      simp only [Option.some.injEq] at e
      have hws : ws = [] := by
        rcases h with h | h
        · have hck : isChk ai.op = false := by cases hk : ai.op <;> rw [hk] at h <;> first | rfl | (simp [isRd] at h)
          rw [core_core1 hck] at hc
          exact (rd_core1 (d' := 0) h hc).1
        · obtain ⟨k,hk⟩ : ∃ k,ai.op = .chk k := by
            cases hk : ai.op <;> rw [hk] at h <;> first | (simp [isChk] at h; done) | exact ⟨_,rfl⟩
          rw [hk] at hc
          exact (chk_spec hc).1
      subst hws
      subst e
      cases hd : ai.d <;> exact ⟨rfl,rfl⟩
    · cases e
theorem stepI_shape {s s1 : St} {ai : AI} (e : stepI call s ai = some s1) : ∃ y,s1.r = (s.put ai.d y).r := by
  obtain ⟨b,hb⟩ := gate_some e
  cases b with
  | true => rw [stepI_t hb] at e; exact go_shape e
  | false =>
    rw [stepI_f hb] at e
    simp only [Option.some.injEq] at e
    exact ⟨.non,by rw [← e]⟩
theorem stepI_rd {s s1 : St} {ai : AI} (h : isRd ai.op = true ∨ isChk ai.op = true) (e : stepI call s ai = some s1) : s1.l = s.l ∧ s1.o = s.o := by
  obtain ⟨b,hb⟩ := gate_some e
  cases b with
  | true => rw [stepI_t hb] at e; exact rd_shape h e
  | false =>
    rw [stepI_f hb] at e
    simp only [Option.some.injEq] at e
    rw [← e]
    cases ai.d <;> exact ⟨rfl,rfl⟩
end
end Go.Am
end
section
/- Every drawn order comes to the machine's end. -/
set_option linter.unusedSimpArgs false
set_option linter.unusedVariables false
namespace Go.Am
open Go.RowKit
theorem countP_lt {α : Type} {p p' : α → Bool} (h : ∀ x,p' x = true → p x = true) : ∀ {l : List α} {i : α},i ∈ l → p i = true → p' i = false → l.countP p' < l.countP p
  | [],_,hi,_,_ => by cases hi
  | a :: l,i,hi,h1,h2 => by
    simp only [List.countP_cons]
    have hle : l.countP p' ≤ l.countP p := List.countP_mono_left fun x _ hx => h x hx
    rcases List.mem_cons.1 hi with rfl | hi
    · simp only [h1,h2,if_true]
      simp; omega
    · have := countP_lt h hi h1 h2
      by_cases ha : p' a = true
      · simp [ha,h a ha]; omega
      · simp [ha]; omega
theorem last_eff {f : Nat → Bool} (p : Nat) : ∀ q,(∃ r,p ≤ r ∧ r < q ∧ f r = true) → ∃ r,p ≤ r ∧ r < q ∧ f r = true ∧ ∀ r',r < r' → r' < q → f r' = false
  | 0,⟨r,_,h,_⟩ => by omega
  | q + 1,⟨r,h1,h2,h3⟩ => by
    by_cases hq : f q = true
    · exact ⟨q,by omega,by omega,hq,fun r' h4 h5 => by omega⟩
    · have : r ≠ q := fun e => hq (e ▸ h3)
      obtain ⟨r0,g1,g2,g3,g4⟩ := last_eff p q ⟨r,h1,by omega,h3⟩
      refine ⟨r0,g1,by omega,g3,fun r' h4 h5 => ?_⟩
      by_cases h : r' = q
      · subst h; simpa using hq
      · exact g4 r' h4 (by omega)
theorem min_pos {ps : Nat → Nat} {f : Nat → Prop} : ∀ (m : Nat),(∃ i,f i ∧ ps i ≤ m) → ∃ i,f i ∧ ∀ j,f j → ps i ≤ ps j
  | 0,⟨i,h1,h2⟩ => ⟨i,h1,fun j _ => by omega⟩
  | m + 1,⟨i,h1,h2⟩ => by
    by_cases h : ∃ j,f j ∧ ps j ≤ m
    · exact min_pos m h
    · exact ⟨i,h1,fun j hj => by
        rcases Nat.lt_or_ge m (ps j) with h3 | h3
        · omega
        · exact absurd ⟨j,hj,h3⟩ h⟩
def regsL (os : Array Oper) (f : Nat → PV) (listed : Array Bool) (r : Regs) : Regs := ((List.range os.size).filterMap fun i => if listed.getD i false then (dstOf os i).map fun t => (t,f t) else none) ++ r
theorem getR_pairs {f : Nat → PV} {r : Regs} {t : Nat} : ∀ {A : Regs},(∀ x ∈ A,x.2 = f x.1) → getR (A ++ r) t = if t ∈ A.map (·.1) then f t else getR r t
  | [],_ => by simp
  | (u,v) :: A,h => by
    have hu := h _ List.mem_cons_self
    simp only at hu
    simp only [List.cons_append,getR,List.map_cons,List.mem_cons]
    by_cases e : u = t
    · subst e; simp [hu]
    · simp only [e,if_false,Ne.symm e,false_or]
      exact getR_pairs fun x hx => h x (List.mem_cons_of_mem _ hx)
open Classical in
theorem getR_regsL {os : Array Oper} {f : Nat → PV} {listed : Array Bool} {r : Regs} {t : Nat} : getR (regsL os f listed r) t = if ∃ i,listed.getD i false = true ∧ dstOf os i = some t then f t else getR r t := by
  unfold regsL
  rw [getR_pairs]
  · have : (t ∈ ((List.range os.size).filterMap fun i => if listed.getD i false then (dstOf os i).map fun t => (t,f t) else none).map (·.1)) ↔ ∃ i,listed.getD i false = true ∧ dstOf os i = some t := by
      simp only [List.mem_map,List.mem_filterMap,List.mem_range]
      constructor
      · rintro ⟨⟨u,v⟩,⟨i,hi,h⟩,rfl⟩
        split at h
        · rename_i hl
          obtain ⟨t',h1,h2⟩ := Option.map_eq_some_iff.1 h
          injection h2 with h2 h3
          subst h2
          exact ⟨i,hl,h1⟩
        · cases h
      · rintro ⟨i,hl,h⟩
        have hi : i < os.size := by
          unfold dstOf at h
          cases ho : os[i]? with
          | none => simp [ho] at h
          | some o => exact (Array.getElem?_eq_some_iff.1 ho).1
        exact ⟨(t,f t),⟨i,hi,by simp [hl,h]⟩,rfl⟩
    by_cases h : ∃ i,listed.getD i false = true ∧ dstOf os i = some t
    · rw [if_pos (this.2 h),if_pos h]
    · rw [if_neg (fun h' => h (this.1 h')),if_neg h]
  · intro x hx
    obtain ⟨i,_,h⟩ := List.mem_filterMap.1 hx
    split at h
    · obtain ⟨t',_,rfl⟩ := Option.map_eq_some_iff.1 h; rfl
    · cases h
section
variable {P : Program} {N n : Nat} {c0 : Ctx} {S0 : Sto} {w0 w : World} {os : Array Oper} {as : List AI} {ps : Nat → Nat} {call : CallF} {s s' : St} {a : Act}
theorem Inv.ext {s1 s2 : St} (inv : Inv N c0 S0 w0 n s1 a w) (hr : ∀ t,getR s2.r t = getR s1.r t) (hl : s2.l = s1.l) (ho : s2.o = s1.o) : Inv N c0 S0 w0 n s2 a w := by
  obtain ⟨c,fp,sim,ha,hg,hd,hn⟩ := inv
  have hget : s2.get = s1.get := by funext i; simp only [St.get,hl,ho]
  exact ⟨c,fp,⟨fun t => by rw [hr t,hget]; exact sim.rg t,by rw [hget]; exact sim.st,sim.df,sim.sz⟩,by rw [hget]; exact ha,hg,by rw [hget]; exact hd,by rw [ho]; exact hn⟩
structure Tr (call : CallF) (as : List AI) (s s' : St) (st : Nat → St) : Prop where
  z : st 0 = s
  e : st as.length = s'
  go : ∀ p ai,as[p]? = some ai → stepI call (st p) ai = some (st (p + 1))
variable {st : Nat → St}
theorem dst_lt {i t : Nat} (h : dstOf os i = some t) : i < os.size := by
  unfold dstOf at h
  cases ho : os[i]? with
  | none => simp [ho] at h
  | some o => exact (Array.getElem?_eq_some_iff.1 ho).1
theorem op_at (pl : Plan P N os as ps) {i : Nat} (hi : i < os.size) : ∃ o ai,os[i]? = some o ∧ as[ps i]? = some ai ∧ okAI P N os ai o = true ∧ isChk ai.op = false ∧ ai.d = dstOf os i ∧ opK as (ps i) = ai.op ∧ opX as (ps i) = ai.xs := by
  have ho : os[i]? = some os[i] := Array.getElem?_eq_getElem hi
  obtain ⟨ai,h1,h2,h4⟩ := pl.op i _ ho
  refine ⟨_,ai,ho,h1,h2,h4, ?_,by simp [opK,h1],by simp [opX,h1]⟩
  simp only [okAI,Bool.and_eq_true] at h2
  have := eq_of_beq h2.1.1.1.1
  simp only [dstOf,ho]
  exact this
theorem pos_le (pl : Plan P N os as ps) {i : Nat} (hi : i < os.size) : ps i < as.length := by
  obtain ⟨o,ai,_,h,_⟩ := op_at pl hi
  exact (List.getElem?_eq_some_iff.1 h).1
theorem regs_between (pl : Plan P N os as ps) (tr : Tr call as s s' st) {t p : Nat} : ∀ {p' : Nat},p ≤ p' → p' ≤ as.length → (∀ i,dstOf os i = some t → ¬ (p ≤ ps i ∧ ps i < p')) → getR (st p').r t = getR (st p).r t := by
  intro p'
  induction p' with
  | zero => intro h _ _; rw [Nat.le_zero.1 h]
  | succ q ih =>
    intro h1 h2 h3
    by_cases hq : p = q + 1
    · rw [hq]
    · have ih' := ih (by omega) (by omega) (fun i hi hh => h3 i hi ⟨hh.1,by omega⟩)
      obtain ⟨ai,hai⟩ : ∃ ai,as[q]? = some ai := ⟨_,List.getElem?_eq_getElem (by omega)⟩
      have hstep := tr.go q ai hai
      have hg : ai.d ≠ some t := by
        rcases pl.pos q ai hai with ⟨_,h⟩ | ⟨i,o,ho,hpi⟩
        · rw [h]; simp
        · obtain ⟨o',ai',_,g1,_,_,g3,_⟩ := op_at pl (Array.getElem?_eq_some_iff.1 ho).1
          rw [hpi,hai] at g1
          simp only [Option.some.injEq] at g1
          subst g1
          refine fun e => ?_
          rw [g3] at e
          exact h3 i e ⟨by omega,by omega⟩
      obtain ⟨y,hy⟩ := stepI_shape hstep
      rw [hy,← ih']
      cases hd : ai.d with
      | none => rfl
      | some u =>
        simp only [St.put,getR]
        rw [if_neg]
        intro e; subst e; exact hg hd
theorem regs_done (pl : Plan P N os as ps) (tr : Tr call as s s' st) {i t p : Nat} (hi : dstOf os i = some t) (h1 : ps i < p) (h2 : p ≤ as.length) : getR (st p).r t = getR s'.r t := by
  rw [← tr.e]
  refine (regs_between pl tr h2 (Nat.le_refl _) (fun j hj hh => ?_)).symm
  have := pl.dst i j t hi hj
  subst this
  omega
theorem regs_none (pl : Plan P N os as ps) (tr : Tr call as s s' st) {t p : Nat} (h : ∀ i,dstOf os i ≠ some t) (h2 : p ≤ as.length) : getR (st p).r t = getR s.r t := by
  rw [← tr.z]
  exact regs_between pl tr (Nat.zero_le _) h2 (fun i hi => absurd hi (h i))
theorem objs_between (pl : Plan P N os as ps) (tr : Tr call as s s' st) {p : Nat} : ∀ {p' : Nat},p ≤ p' → p' ≤ as.length → (∀ q,p ≤ q → q < p' → isEff as q = false) → (st p').l = (st p).l ∧ (st p').o = (st p).o := by
  intro p'
  induction p' with
  | zero => intro h _ _; rw [Nat.le_zero.1 h]; exact ⟨rfl,rfl⟩
  | succ q ih =>
    intro h1 h2 h3
    by_cases hq : p = q + 1
    · rw [hq]; exact ⟨rfl,rfl⟩
    · obtain ⟨i1,i2⟩ := ih (by omega) (by omega) (fun r hr hr' => h3 r hr (by omega))
      obtain ⟨ai,hai⟩ : ∃ ai,as[q]? = some ai := ⟨_,List.getElem?_eq_getElem (by omega)⟩
      have hstep := tr.go q ai hai
      have he := h3 q (by omega) (by omega)
      simp only [isEff,opK,hai,Bool.and_eq_false_iff,Bool.not_eq_false'] at he
      obtain ⟨j1,j2⟩ := stepI_rd he.symm hstep
      exact ⟨j1.trans i1,j2.trans i2⟩
end
end Go.Am
end
section
/- A drawn region is sound. -/
set_option linter.unusedSimpArgs false
set_option linter.unusedVariables false
namespace Go.Am
open Go.RowKit
section
variable {P : Program} {N n : Nat} {c0 : Ctx} {S0 : Sto} {w0 w : World} {os : Array Oper} {as : List AI} {ps : Nat → Nat} {call : CallF} {s s' : St} {a : Act} {st : Nat → St}
theorem get_ext {s1 s2 : St} (hl : s1.l = s2.l) (ho : s1.o = s2.o) : s1.get = s2.get := by
  obtain ⟨r1,l1,o1⟩ := s1
  obtain ⟨r2,l2,o2⟩ := s2
  simp only at hl ho
  subst hl ho
  rfl
structure J (os : Array Oper) (as : List AI) (ps : Nat → Nat) (listed : Array Bool) (q : Nat) : Prop where
  size : listed.size = os.size
  clo : Clo os listed
  eff : ∀ e,e < os.size → isEff as (ps e) = true → (listed.getD e false = true ↔ ps e < q)
  le : q ≤ as.length
def stL (os : Array Oper) (s s' : St) (st : Nat → St) (listed : Array Bool) (q : Nat) : St := ⟨regsL os (getR s'.r) listed s.r,(st q).l,(st q).o⟩
theorem mem_opdTmps {t : Nat} : ∀ {xs : List Opd},Opd.t t ∈ xs → t ∈ opdTmps xs
  | [],h => by cases h
  | .t n :: r,h => by
    simp only [opdTmps]
    rcases List.mem_cons.1 h with h | h
    · injection h with h; subst h; exact List.mem_cons_self
    · exact List.mem_cons_of_mem _ (mem_opdTmps h)
  | .k v :: r,h => by
    simp only [opdTmps]
    rcases List.mem_cons.1 h with h | h
    · cases h
    · exact mem_opdTmps h
  | .f v :: r,h => by
    simp only [opdTmps]
    rcases List.mem_cons.1 h with h | h
    · cases h
    · exact mem_opdTmps h
theorem ops_agree (pl : Plan P N os as ps) (tr : Tr call as s s' st) {listed : Array Bool} (hc : Clo os listed) {i p : Nat} (hi : i < os.size) (hun : listed.getD i false = false) (ha : ∀ q ∈ afterOf os i,listed.getD q false = true) (h1 : ps i ≤ p) (h2 : p ≤ as.length) {t : Nat} (ht : t ∈ opdTmps (opX as (ps i)) ++ opG as (ps i))
    (hw : ∀ j u,dstOf os j = some u → u ∈ opdTmps (opX as (ps i)) ++ opG as (ps i) → anc os os.size j i = true → p ≤ ps j) :
    getR (regsL os (getR s'.r) listed s.r) t = getR (st p).r t := by
  rw [getR_regsL]
  by_cases h : ∃ j,dstOf os j = some t
  · obtain ⟨j,hj⟩ := h
    rcases pl.dep i j t hj ht hi with han | han
    · have hl := anc_listed pl hc _ i j hi ha han
      have hp := (anc_pos pl _ i j hi han).2
      rw [if_pos ⟨j,hl,hj⟩]
      exact (regs_done pl tr hj (by omega) h2).symm
    · have hjl : ∀ k,dstOf os k = some t → listed.getD k false = false := by
        intro k hk
        have := pl.dst j k t hj hk
        subst this
        cases hl : listed.getD j false with
        | false => rfl
        | true =>
          have := anc_listed pl hc _ j i (dst_lt hj) (hc j (dst_lt hj) hl) han
          rw [hun] at this; cases this
      rw [if_neg (fun ⟨k,h3,h4⟩ => by rw [hjl k h4] at h3; cases h3)]
      have := regs_between pl tr (t := t) (Nat.zero_le p) h2 (fun k hk hh => by
        have := pl.dst j k t hj hk
        subst this
        have := hw j t hj ht han
        omega)
      rw [this,tr.z]
  · rw [if_neg (fun ⟨j,_,hj⟩ => h ⟨j,hj⟩)]
    exact (regs_none pl tr (fun j hj => h ⟨j,hj⟩) h2).symm
theorem listed_set {listed : Array Bool} {i j : Nat} (hs : i < listed.size) : (listed.setIfInBounds i true).getD j false = true ↔ j = i ∨ listed.getD j false = true := by
  by_cases h : i = j
  · subst h; simp [hs]
  · rw [getD_set_ne false h]; simp [Ne.symm h]
theorem one_more (pl : Plan P N os as ps) (tr : Tr call as s s' st) {listed : Array Bool} {q i : Nat} {ai : AI} (j : J os as ps listed q) (hi : i < os.size) (hai : as[ps i]? = some ai) (hun : listed.getD i false = false) (ha : ∀ r ∈ afterOf os i,listed.getD r false = true) :
    ∃ s2 q',stepI call (stL os s s' st listed q) ai = some s2 ∧ J os as ps (listed.setIfInBounds i true) q' ∧ (∀ t,getR (stL os s s' st (listed.setIfInBounds i true) q').r t = getR s2.r t) ∧ (st q').l = s2.l ∧ (st q').o = s2.o := by
  obtain ⟨o,ai',ho,h1,hok,hck,hd,hK,hX⟩ := op_at pl hi
  rw [hai] at h1
  simp only [Option.some.injEq] at h1
  subst h1
  have hpl := pos_le pl hi
  have hilt : i < listed.size := by rw [j.size]; exact hi
  have hstep := tr.go (ps i) ai hai
  have hw0 : ∀ j u,dstOf os j = some u → u ∈ opdTmps (opX as (ps i)) ++ opG as (ps i) → anc os os.size j i = true → ps i ≤ ps j := fun j u hj _ han => Nat.le_of_lt (anc_pos pl _ j i (dst_lt hj) han).2
  have hGm : ∀ j w,ai.g = some (j,w) → j ∈ opdTmps (opX as (ps i)) ++ opG as (ps i) := fun j w h => by simp [opG,hai,h]
  have hgeq : gate (stL os s s' st listed q) ai = gate (st (ps i)) ai := gate_eq fun j' w h => ops_agree pl tr j.clo hi hun ha (Nat.le_refl _) (by omega) (hGm j' w h) hw0
  obtain ⟨gb,hgb⟩ := gate_some hstep
  -- the listing after
  have hclo : Clo os (listed.setIfInBounds i true) := by
    intro k hk hl r hr
    rcases (listed_set hilt).1 hl with rfl | hl
    · exact (listed_set hilt).2 (.inr (ha r hr))
    · exact (listed_set hilt).2 (.inr (j.clo k hk hl r hr))
  -- no unlisted effect stands ahead
  have hahead : ∀ r,q ≤ r → r < ps i → isEff as r = false := by
    intro r hr1 hr2
    cases he : isEff as r with
    | false => rfl
    | true =>
      obtain ⟨a',ha'⟩ : ∃ a',as[r]? = some a' := ⟨_,List.getElem?_eq_getElem (by omega)⟩
      rcases pl.pos r a' ha' with ⟨h,_⟩ | ⟨e,oe,hoe,rfl⟩
      · simp [isEff,opK,ha',h] at he
      · have hes : e < os.size := (Array.getElem?_eq_some_iff.1 hoe).1
        have := anc_listed pl j.clo _ i e hi ha (pl.aft i e hi hes he hr2)
        have := (j.eff e hes he).1 this
        omega
  -- the value that it yields
  have hval : ∀ {r1 : Regs} {y : PV},(st (ps i + 1)).r = ((st (ps i)).put ai.d y).r → ∀ t,ai.d = some t → y = getR s'.r t := by
    intro r1 y hy t ht
    have := regs_done pl tr (i := i) (t := t) (by rw [← hd]; exact ht) (Nat.lt_succ_self _) hpl
    rw [hy,ht] at this
    simpa [St.put,getR] using this
  have hregs : ∀ {s2 : St} {y : PV},s2.r = ((stL os s s' st listed q).put ai.d y).r → (∀ t,ai.d = some t → y = getR s'.r t) → ∀ q' t,getR (stL os s s' st (listed.setIfInBounds i true) q').r t = getR s2.r t := by
    intro s2 y hs2 hy q' t
    rw [hs2]
    simp only [stL,getR_regsL]
    by_cases hdt : ai.d = some t
    · rw [if_pos ⟨i,(listed_set hilt).2 (.inl rfl),by rw [← hd]; exact hdt⟩]
      rw [← hy t hdt,hdt]
      simp [St.put,getR]
    · have e1 : (∃ k,(listed.setIfInBounds i true).getD k false = true ∧ dstOf os k = some t) ↔ ∃ k,listed.getD k false = true ∧ dstOf os k = some t := by
        constructor
        · rintro ⟨k,h1,h2⟩
          rcases (listed_set hilt).1 h1 with rfl | h1
          · rw [← hd] at h2; exact absurd h2 hdt
          · exact ⟨k,h1,h2⟩
        · rintro ⟨k,h1,h2⟩
          exact ⟨k,(listed_set hilt).2 (.inr h1),h2⟩
      have e2 : getR (St.put ⟨regsL os (getR s'.r) listed s.r,(st q).l,(st q).o⟩ ai.d y).r t = getR (regsL os (getR s'.r) listed s.r) t := by
        cases hdd : ai.d with
        | none => rfl
        | some u =>
          simp only [St.put,getR]
          rw [if_neg (fun e => hdt (by rw [hdd,e]))]
      rw [e2,getR_regsL]
      by_cases h : ∃ k,listed.getD k false = true ∧ dstOf os k = some t
      · rw [if_pos h,if_pos (e1.2 h)]
      · rw [if_neg h,if_neg (fun h' => h (e1.1 h'))]
  cases gb with
  | false =>
    -- not wanted
    rw [stepI_f hgb] at hstep
    simp only [Option.some.injEq] at hstep
    rw [stepI_f (hgeq.trans hgb)]
    have hsl : (st (ps i + 1)).l = (st (ps i)).l ∧ (st (ps i + 1)).o = (st (ps i)).o := by rw [← hstep]; cases ai.d <;> exact ⟨rfl,rfl⟩
    have hv : ∀ t,ai.d = some t → PV.non = getR s'.r t := hval (r1 := []) (by rw [← hstep])
    have hput : ((stL os s s' st listed q).put ai.d .non).l = (st q).l ∧ ((stL os s s' st listed q).put ai.d .non).o = (st q).o := by cases ai.d <;> exact ⟨rfl,rfl⟩
    by_cases hE : isEff as (ps i) = true
    · have hqi : q ≤ ps i := by
        rcases Nat.lt_or_ge (ps i) q with h | h
        · have := (j.eff i hi hE).2 h; rw [hun] at this; cases this
        · exact h
      obtain ⟨o1,o2⟩ := objs_between pl tr hqi (by omega) (fun r h1 h2 => hahead r h1 h2)
      refine ⟨_,ps i + 1,rfl,⟨by simp [j.size],hclo,fun e he hee => ?_,by omega⟩,hregs rfl hv _, ?_, ?_⟩
      · rw [listed_set hilt,j.eff e he hee]
        constructor
        · rintro (rfl | h)
          · omega
          · omega
        · intro h
          by_cases hei : e = i
          · exact .inl hei
          · right
            have hne : ps e ≠ ps i := fun h' => hei (pl.inj e i he hi h')
            rcases Nat.lt_or_ge (ps e) q with h' | h'
            · exact h'
            · have := hahead (ps e) h' (by omega); rw [hee] at this; cases this
      · rw [hput.1,hsl.1,o1]
      · rw [hput.2,hsl.2,o2]
    · have hE' : isEff as (ps i) = false := by simpa using hE
      refine ⟨_,q,rfl,⟨by simp [j.size],hclo,fun e he hee => ?_,j.le⟩,hregs rfl hv _,hput.1.symm,hput.2.symm⟩
      rw [listed_set hilt,j.eff e he hee]
      constructor
      · rintro (rfl | h)
        · rw [hee] at hE'; cases hE'
        · exact h
      · exact .inr
  | true =>
  rw [stepI_t hgb] at hstep
  rw [stepI_t (hgeq.trans hgb)]
  -- as the machine does it
  have direct : (st (ps i)).l = (st q).l ∧ (st (ps i)).o = (st q).o → ∃ s2,stepGo call (stL os s s' st listed q) ai = some s2 ∧ (∀ q' t,getR (stL os s s' st (listed.setIfInBounds i true) q').r t = getR s2.r t) ∧ (st (ps i + 1)).l = s2.l ∧ (st (ps i + 1)).o = s2.o := by
    rintro ⟨hl,hoo⟩
    have heq : stL os s s' st listed q = (st (ps i)).wr (regsL os (getR s'.r) listed s.r) := by
      simp only [stL,St.wr,hl,hoo]
    have hxs : ∀ x ∈ ai.xs,((st (ps i)).wr (regsL os (getR s'.r) listed s.r)).ev x = (st (ps i)).ev x := by
      intro x hx
      cases x with
      | t u =>
        simp only [St.ev,St.wr]
        exact ops_agree pl tr j.clo hi hun ha (Nat.le_refl _) (by omega) (List.mem_append_left _ (by rw [hX]; exact mem_opdTmps hx)) hw0
      | k v => rfl
      | f v => rfl
    obtain ⟨y,hy1,hy2⟩ := stepGo_wr (call := call) (regsL os (getR s'.r) listed s.r) hxs hstep
    rw [heq]
    refine ⟨_,hy2, ?_,rfl,rfl⟩
    refine hregs (s2 := (st (ps i + 1)).wr (((st (ps i)).wr (regsL os (getR s'.r) listed s.r)).put ai.d y).r) (y := y) ?_ (hval (r1 := []) hy1)
    cases hdd : ai.d <;> rfl
  by_cases hE : isEff as (ps i) = true
  · -- an effect
    have hqi : q ≤ ps i := by
      rcases Nat.lt_or_ge (ps i) q with h | h
      · have := (j.eff i hi hE).2 h; rw [hun] at this; cases this
      · exact h
    obtain ⟨s2,g1,g2,g3,g4⟩ := direct (objs_between pl tr hqi (by omega) (fun r h1 h2 => hahead r h1 h2))
    refine ⟨s2,ps i + 1,g1,⟨by simp [j.size],hclo,fun e he hee => ?_,by omega⟩,fun t => g2 _ t,g3,g4⟩
    rw [listed_set hilt,j.eff e he hee]
    constructor
    · rintro (rfl | h)
      · omega
      · omega
    · intro h
      by_cases hei : e = i
      · exact .inl hei
      · right
        have hne : ps e ≠ ps i := fun h' => hei (pl.inj e i he hi h')
        rcases Nat.lt_or_ge (ps e) q with h' | h'
        · exact h'
        · have := hahead (ps e) h' (by omega); rw [hee] at this; cases this
  · -- a reader
    have hE' : isEff as (ps i) = false := by simpa using hE
    have hrd : isRd ai.op = true := by simpa [isEff,hK,hck] using hE'
    have hJ : J os as ps (listed.setIfInBounds i true) q := by
      refine ⟨by simp [j.size],hclo,fun e he hee => ?_,j.le⟩
      rw [listed_set hilt,j.eff e he hee]
      constructor
      · rintro (rfl | h)
        · rw [hee] at hE'; cases hE'
        · exact h
      · exact .inr
    have hstable : (st (ps i + 1)).l = (st (ps i)).l ∧ (st (ps i + 1)).o = (st (ps i)).o := rd_shape (.inl hrd) hstep
    by_cases hq : (st (ps i)).l = (st q).l ∧ (st (ps i)).o = (st q).o
    · obtain ⟨s2,g1,g2,g3,g4⟩ := direct hq
      exact ⟨s2,q,g1,hJ,fun t => g2 _ t,by rw [← g3,hstable.1,hq.1],by rw [← g4,hstable.2,hq.2]⟩
    · -- an effect has come between: the check behind it tells
      have hlt : ps i < q := by
        rcases Nat.lt_or_ge (ps i) q with h | h
        · exact h
        · exact absurd (objs_between pl tr h (by omega) (fun r h1 h2 => hahead r h1 h2)) hq
      have hex : ∃ r,ps i ≤ r ∧ r < q ∧ isEff as r = true := by
        refine Classical.byContradiction fun hn => hq ?_
        obtain ⟨k1,k2⟩ := objs_between pl tr (Nat.le_of_lt hlt) j.le (fun r h1 h2 => by
          cases he : isEff as r with
          | false => rfl
          | true => exact absurd ⟨r,h1,h2,he⟩ hn)
        exact ⟨k1.symm,k2.symm⟩
      obtain ⟨r0,e1,e2,e3,e4⟩ := last_eff (ps i) q hex
      have hle := j.le
      obtain ⟨a',ha'⟩ : ∃ a',as[r0]? = some a' := ⟨_,List.getElem?_eq_getElem (by omega)⟩
      rcases pl.pos r0 a' ha' with ⟨h,_⟩ | ⟨e,oe,hoe,rfl⟩
      · simp [isEff,opK,ha',h] at e3
      have hes : e < os.size := (Array.getElem?_eq_some_iff.1 hoe).1
      have hle' : listed.getD e false = true := (j.eff e hes e3).2 e2
      have hne : ps i ≠ ps e := fun h => by rw [h,e3] at hE'; cases hE'
      have hcore3 : ∃ y,core1 (st q).o.length (ai.d.getD 999) (stL os s s' st listed q).get ai.op (ai.xs.map (stL os s s' st listed q).ev) = some (y,[]) ∧ ∀ t,ai.d = some t → y = getR s'.r t := by
        rcases pl.fwd i e hi hes e3 hE' (by omega) with hanc | ⟨r,ca,cb,t,hca,hcb,hcd,hr1,hr2,hop,hxs,hcg,hwr⟩ | hpure
        · have := anc_listed pl j.clo _ e i hes (fun k hk => j.clo e hes hle' k hk) hanc
          rw [hun] at this; cases this
        · rw [hai] at hcb
          simp only [Option.some.injEq] at hcb
          subst hcb
          have hrlen : r < as.length := (List.getElem?_eq_some_iff.1 hca).1
          have hchk := tr.go r ca hca
          have hgr : gate (st r) ca = gate (st (ps i)) ca := by
            refine gate_eq fun j' w h => ?_
            rw [← ops_agree pl tr j.clo hi hun ha (p := r) (by omega) (by omega) (hGm j' w (by rw [← hcg]; exact h)) hwr,← ops_agree pl tr j.clo hi hun ha (p := ps i) (Nat.le_refl _) (by omega) (hGm j' w (by rw [← hcg]; exact h)) hw0]
          have hgc : gate (st (ps i)) ca = gate (st (ps i)) ai := by unfold gate; rw [hcg]
          rw [stepI_t (hgr.trans (hgc.trans hgb))] at hchk
          -- what the check has shown
          have hcore : ∃ d,core1 (st r).o.length d (st r).get ai.op (ai.xs.map (st r).ev) = some (getR (st r).r t,[]) := by
            unfold stepGo at hchk
            rw [hop] at hchk
            simp only at hchk
            split at hchk
            · rename_i v ws hc
              obtain ⟨_,x,xs,hx1,hx2⟩ := chk_spec hc
              rw [hxs] at hx1
              simp only [List.map_cons,List.cons.injEq] at hx1
              obtain ⟨rfl,rfl⟩ := hx1
              exact ⟨_,hx2⟩
            · cases hchk
          obtain ⟨dd,hcore⟩ := hcore
          have ho1 := objs_between pl tr (p := ps e + 1) (p' := r) (by omega) (by omega) (fun k h1 h2 => hr2 k (by omega) h2)
          have ho2 := objs_between pl tr (p := ps e + 1) (p' := q) (by omega) j.le (fun k h1 h2 => e4 k (by omega) h2)
          have hl : (st r).l = (st q).l := by rw [ho1.1,ho2.1]
          have hoo : (st r).o = (st q).o := by rw [ho1.2,ho2.2]
          have hget : (st r).get = (stL os s s' st listed q).get := get_ext hl hoo
          have hevs : ai.xs.map (st r).ev = ai.xs.map (stL os s s' st listed q).ev := by
            refine List.map_congr_left fun x hx => ?_
            cases x with
            | t u =>
              simp only [St.ev,stL]
              exact (ops_agree pl tr j.clo hi hun ha (by omega) (by omega) (List.mem_append_left _ (by rw [hX]; exact mem_opdTmps hx)) hwr).symm
            | k v => rfl
            | f v => rfl
          have hvt : getR (st r).r t = getR s'.r t := regs_done pl tr (i := i) (by rw [← hd]; exact hcd) (by omega) (by omega)
          rw [hget,hevs,hvt,hoo] at hcore
          exact ⟨_,(rd_core1 (d' := ai.d.getD 999) hrd hcore).2,fun t' ht' => by rw [hcd] at ht'; injection ht' with ht'; rw [ht']⟩
        · rw [hK] at hpure
          have hevs : ai.xs.map (st (ps i)).ev = ai.xs.map (stL os s s' st listed q).ev := by
            refine List.map_congr_left fun x hx => ?_
            cases x with
            | t u =>
              simp only [St.ev,stL]
              exact (ops_agree pl tr j.clo hi hun ha (Nat.le_refl _) (by omega) (List.mem_append_left _ (by rw [hX]; exact mem_opdTmps hx)) hw0).symm
            | k v => rfl
            | f v => rfl
          have hstep' := hstep
          unfold stepGo at hstep'
          split at hstep'
          · rename_i b l hop'
            rw [hop'] at hrd; simp [isRd] at hrd
          · rw [core_core1 hck] at hstep'
            split at hstep'
            · rename_i v ws hc
              simp only [Option.some.injEq] at hstep'
              have hws := (rd_core1 (d' := 0) hrd hc).1
              subst hws
              rw [hevs] at hc
              refine ⟨v,pure_core1 hpure hc,hval (r1 := []) ?_⟩
              rw [← hstep']
              rfl
            · cases hstep'
      obtain ⟨yv,hcore2,hyv⟩ := hcore3
      have hgo : stepGo call (stL os s s' st listed q) ai = some ((stL os s s' st listed q).put ai.d yv) := by
        unfold stepGo
        split
        · rename_i b l hop'
          rw [hop'] at hrd; simp [isRd] at hrd
        · rw [core_core1 hck]
          have : (stL os s s' st listed q).o.length = (st q).o.length := rfl
          rw [this,hcore2]
          rfl
      refine ⟨_,q,hgo,hJ,fun k => hregs (y := yv) rfl hyv q k, ?_, ?_⟩
      · cases hdd : ai.d <;> rfl
      · cases hdd : ai.d <;> rfl
theorem any_ok (hs : SoundC P call) (hlv : Lv n S0) (pl : Plan P N os as ps) (tr : Tr call as s s' st) {Q : Exit → Act → World → Prop} (hQ : ∀ a' w',Inv N c0 S0 w0 n s' a' w' → Q .normal a' w') :
    ∀ (fuel : Nat) (listed : Array Bool) (q : Nat) (a : Act) (w : World),J os as ps listed q → (List.range os.size).countP (fun i => !listed.getD i false) ≤ fuel → Inv N c0 S0 w0 n (stL os s s' st listed q) a w → wpAny P .any os Q fuel listed a w := by
  -- when nothing is ready,everything is listed
  have key : ∀ {listed : Array Bool} {q : Nat},J os as ps listed q → (Region.ready .any os listed = [] ∨ (List.range os.size).countP (fun i => !listed.getD i false) = 0) → ∀ i,i < os.size → listed.getD i false = true := by
    intro listed q j h i hi
    refine Classical.byContradiction fun hu => ?_
    have hu : listed.getD i false = false := by simpa using hu
    rcases h with h | h
    · obtain ⟨m,⟨hm1,hm2⟩,hm3⟩ := min_pos (ps := ps) (f := fun k => k < os.size ∧ listed.getD k false = false) (ps i) ⟨i,⟨hi,hu⟩,Nat.le_refl _⟩
      have : m ∈ Region.ready .any os listed := by
        rw [mem_ready]
        refine ⟨?_,os[m],Array.getElem?_eq_getElem hm1,fun e he hb => ?_⟩
        · have hms : m < listed.size := by rw [j.size]; exact hm1
          simp only [Array.getD,hms,dif_pos] at hm2 ⊢
          exact hm2
        · have hmem : e.on ∈ afterOf os m := by
            simp only [afterOf,Array.getElem?_eq_getElem hm1]
            exact List.mem_map.2 ⟨e,List.mem_filter.2 ⟨Array.mem_toList_iff.2 he,hb⟩,rfl⟩
          obtain ⟨h1,h2⟩ := pl.top m e.on hm1 hmem
          cases hl : listed.getD e.on false with
          | true => rfl
          | false => have := hm3 e.on ⟨h1,hl⟩; omega
      rw [h] at this; cases this
    · have := List.countP_eq_zero.1 h i (List.mem_range.2 hi)
      simp [hu] at this
  have done : ∀ {listed : Array Bool} {q : Nat} {a : Act} {w : World},J os as ps listed q → (∀ i,i < os.size → listed.getD i false = true) → Inv N c0 S0 w0 n (stL os s s' st listed q) a w → Q .normal a w := by
    intro listed q a w j hall inv
    refine hQ _ _ (inv.ext (fun t => ?_) ?_ ?_)
    · simp only [stL,getR_regsL]
      by_cases h : ∃ i,listed.getD i false = true ∧ dstOf os i = some t
      · rw [if_pos h]
      · rw [if_neg h,← tr.e]
        exact regs_none pl tr (fun i hi => h ⟨i,hall i (dst_lt hi),hi⟩) (Nat.le_refl _)
    all_goals
      have := objs_between pl tr (p := q) (p' := as.length) j.le (Nat.le_refl _) (fun r h1 h2 => by
        cases he : isEff as r with
        | false => rfl
        | true =>
          obtain ⟨a',ha'⟩ : ∃ a',as[r]? = some a' := ⟨_,List.getElem?_eq_getElem h2⟩
          rcases pl.pos r a' ha' with ⟨h,_⟩ | ⟨e,oe,hoe,rfl⟩
          · simp [isEff,opK,ha',h] at he
          · have hes : e < os.size := (Array.getElem?_eq_some_iff.1 hoe).1
            have := (j.eff e hes he).1 (hall e hes)
            omega)
      rw [tr.e] at this
      first | exact this.1 | exact this.2
  intro fuel
  induction fuel with
  | zero =>
    intro listed q a w j hc inv
    have hall := key j (.inr (Nat.le_zero.1 hc))
    refine ⟨?_,done j hall inv⟩
    refine List.eq_nil_iff_forall_not_mem.2 fun i hi => ?_
    obtain ⟨h0,o,ho,_⟩ := mem_ready.1 hi
    have his : i < os.size := (Array.getElem?_eq_some_iff.1 ho).1
    have h1 := hall i his
    have hms : i < listed.size := by rw [j.size]; exact his
    simp only [Array.getD,hms,dif_pos] at h0 h1
    rw [h0] at h1; cases h1
  | succ fuel ih =>
    intro listed q a w j hc inv
    refine ⟨fun h => done j (key j (.inl h)) inv,fun i hi => ?_⟩
    obtain ⟨h0,o,ho,haft⟩ := mem_ready.1 hi
    have his : i < os.size := (Array.getElem?_eq_some_iff.1 ho).1
    have hms : i < listed.size := by rw [j.size]; exact his
    have hun : listed.getD i false = false := by
      simp only [Array.getD,hms,dif_pos] at h0 ⊢
      exact h0
    have haf : ∀ r ∈ afterOf os i,listed.getD r false = true := by
      intro r hr
      simp only [afterOf,ho] at hr
      obtain ⟨e,he,rfl⟩ := List.mem_map.1 hr
      obtain ⟨he1,he2⟩ := List.mem_filter.1 he
      exact haft e (Array.mem_toList_iff.1 he1) he2
    obtain ⟨ai,hai,hok,hck⟩ := pl.op i o ho
    obtain ⟨s2,q',h1,h2,h3,h4,h5⟩ := one_more pl tr j his hai hun haf
    unfold wpOp
    simp only [ho]
    have hcount : (List.range os.size).countP (fun k => !(listed.setIfInBounds i true).getD k false) ≤ fuel := by
      have := countP_lt (p := fun k => !listed.getD k false) (p' := fun k => !(listed.setIfInBounds i true).getD k false) (l := List.range os.size) (i := i) (fun x hx => by
        have hx' : (listed.setIfInBounds i true).getD x false = false := by simpa using hx
        have : ¬ listed.getD x false = true := fun h => by rw [(listed_set hms).2 (.inr h)] at hx'; cases hx'
        simpa using this) (List.mem_range.2 his) (by simp only [hun]; rfl) (by simp only [(listed_set hms).2 (.inl rfl)]; rfl)
      omega
    have hstep := ai_ok (Q := Q) (K := wpAny P .any os Q fuel (listed.setIfInBounds i true)) hs hlv inv hok h1 (fun a' w' inv' => ih _ q' a' w' h2 hcount (inv'.ext h3 h4 h5))
    split
    · rename_i hw; rw [if_pos hw] at hstep; exact .inl hstep
    · rename_i hw; rw [if_neg hw] at hstep; exact hstep
theorem draw_ok (hs : SoundC P call) (hlv : Lv n S0) (hm : P.follows .mixedOrders = true) (pl : Plan P N os as ps) {id : Nat} {Q : Exit → Act → World → Prop} (e : steps call s as = some s') (inv : Inv N c0 S0 w0 n s a w) (hQ : ∀ a' w',Inv N c0 S0 w0 n s' a' w' → Q .normal a' w') :
    (Code.region id os true).wp P Q a w := by
  obtain ⟨st,t1,t2,t3⟩ := trace e
  have tr : Tr call as s s' st := ⟨t1,t2,t3⟩
  refine wp_region_any hm (any_ok hs hlv pl tr hQ _ _ 0 _ _ ⟨by simp, ?_, ?_,Nat.zero_le _⟩ ?_ ?_)
  · intro i hi h
    simp [hi] at h
  · intro e he _
    simp [he]
  · exact Nat.le_trans List.countP_le_length (by simp)
  · have hinv : Inv N c0 S0 w0 n s a { w with drawn := w.drawn + 1 } := by
      obtain ⟨c,fp,sim,ha,hg,hd,hn⟩ := inv
      exact ⟨c,fp,⟨sim.rg,sim.st,sim.df,sim.sz⟩,ha,hg.trans ⟨rfl,rfl,rfl,Nat.le_refl _,fun _ _ => rfl,Nat.le_succ _⟩,hd,hn⟩
    refine hinv.ext (fun t => ?_) (by simp [stL,tr.z]) (by simp [stL,tr.z])
    simp only [stL,getR_regsL]
    rw [if_neg]
    rintro ⟨i,h,hi⟩
    have := dst_lt hi
    simp [this] at h
end
end Go.Am
end
section
/- A drawn region in which a variable may be made at any time: the machine makes it behind all that does not need it. -/
set_option linter.unusedSimpArgs false
set_option linter.unusedVariables false
namespace Go.Am
open Go.RowKit
mutual
theorem known_all (n : Nat) : ∀ (x : PV),known (fun _ => true) n x = true
  | .undef => rfl
  | .sc _ => rfl
  | .nils => rfl
  | .sl _ _ _ => rfl
  | .iref _ _ => rfl
  | .non => rfl
  | .own _ _ => by simp [known]
  | .ref _ _ _ _ => by simp [known]
  | .sub _ _ _ => by simp [known]
  | .mp _ => by simp [known]
  | .clo _ cs => by simp only [known]; exact knowns_all n cs
  | .agg cs => by simp only [known]; exact knowns_all n cs
  | .tup cs => by simp only [known]; exact knowns_all n cs
  | .bx cs => by simp only [known]; exact knowns_all n cs
theorem knowns_all (n : Nat) : ∀ (xs : List PV),knowns (fun _ => true) n xs = true
  | [] => rfl
  | x :: xs => by simp only [knowns,known_all n x,knowns_all n xs,Bool.and_self]
end
def Ctx.withX (c : Ctx) (X : Nat → Option Obj) : Ctx := ⟨c.F,c.L,X⟩
section
variable {c : Ctx} {S : Sto} {h h' : Hp} {X : Nat → Option Obj}
theorem RVal.xch {x : PV} {v : Value} (r : RVal c S h x v) : RVal (c.withX X) S h' x v :=
  RVal.kn (c := c) (c' := c.withX X) (S := S) (S' := S) (h := h) (h' := h') (n := 0) (g := fun _ => true) (fun _ _ h => h) (fun _ _ => ⟨rfl,rfl⟩) (known_all 0 x) r
theorem RO.xch {id : Id} {ob : OB} {fp : List Nat} (hf : ∀ b ∈ fp,h' b = h b) (r : RO c S h id ob fp) : RO (c.withX X) S h' id ob fp :=
  RO.vis (c := c) (c' := c.withX X) (S := S) (S' := S) (h := h) (h' := h') (fun _ _ h => h) (fun _ _ => ⟨rfl,rfl⟩) hf r
theorem StOK.hide {fp : Id → List Nat} {w : World} (ok : StOK c S (hp w) fp) (o : Obj) : StOK (c.withX (fun x => if x = w.heap.size then some o else c.X x)) S (hp (w.alloc o)) fp := by
  refine ⟨fun id ob h => (ok.ob id ob h).xch fun b hb => hp_alloc_old (by have := ok.lt h hb; omega),ok.nd,ok.dj,fun id ob h b hb => ?_,fun b o' h => ?_,fun b o' h => ?_⟩
  · have hu := ok.nF id ob h b hb
    have := ok.lt h hb
    refine ⟨hu.1, ?_⟩
    show (if b = w.heap.size then some o else c.X b) = none
    rw [if_neg (by omega)]; exact hu.2
  · by_cases e : b = w.heap.size
    · subst e
      rcases h with h | h
      · have := hp_lt (ok.okF _ _ (.inl h)); omega
      · have h : (if w.heap.size = w.heap.size then some o else c.X w.heap.size) = some o' := h
        rw [if_pos rfl] at h
        rw [← h]; exact hp_alloc_new
    · have h' : c.F b = some o' ∨ c.X b = some o' := by
        rcases h with h | h
        · exact .inl h
        · right
          have h : (if b = w.heap.size then some o else c.X b) = some o' := h
          rwa [if_neg e] at h
      rw [hp_alloc_old e]; exact ok.okF b o' h'
  · show (if b = w.heap.size then some o else c.X b) = none
    have h : c.F b = some o' := h
    have hne : b ≠ w.heap.size := fun e => by
      subst e
      have := hp_lt (ok.okF _ _ (.inl h)); omega
    rw [if_neg hne]; exact ok.dis b o' h
theorem StOK.unhide {fp : Id → List Nat} (ok : StOK c S h fp) (hX : ∀ b o,X b = some o → c.X b = some o) : StOK (c.withX X) S h fp := by
  have key : ∀ b,c.X b = none → X b = none := fun b hb => by
    cases hx : X b with
    | none => rfl
    | some o => have := hX b o hx; rw [hb] at this; cases this
  exact ⟨fun id ob e => (ok.ob id ob e).xch (fun _ _ => rfl),ok.nd,ok.dj,fun id ob e b hb => ⟨(ok.nF id ob e b hb).1,key b (ok.nF id ob e b hb).2⟩,
    fun b o e => ok.okF b o (e.elim .inl fun e => .inr (hX b o e)),fun b o e => key b (ok.dis b o e)⟩
end
def HInv (N : Nat) (c0 : Ctx) (S0 : Sto) (w0 : World) (n dA : Nat) (z : List PV) (s : St) (a : Act) (w : World) : Prop :=
  ∃ (cA : Ctx) (b : Nat) (vs : List Value) (t : TypeId) (S1 : Sto) (w1 : World),
    cA.U b ∧ Adv c0 cA S0 S1 ∧ Grew w0 w1 ∧ (∀ id ob,S1 id = some ob → ∃ ob',S0 id = some ob') ∧ Lv n S1 ∧
    z.all cellP = true ∧ upTos n z = true ∧ (∀ c S h,Rs c S h z vs []) ∧
    Inv N (cA.withX fun x => if x = b then some (.cells vs.toArray t) else cA.X x) S1 w1 n ⟨(dA,.sc (.pointer (some ⟨b,0,none⟩))) :: s.r,s.l,s.o⟩ a w
section
variable {P : Program} {N n : Nat} {c0 : Ctx} {S0 : Sto} {w0 w : World} {call : CallF} {s s2 : St} {a : Act} {dA : Nat} {z : List PV}
theorem HInv.ext {s1 : St} (h : HInv N c0 S0 w0 n dA z s a w) (hr : ∀ t,getR s1.r t = getR s.r t) (hl : s1.l = s.l) (ho : s1.o = s.o) : HInv N c0 S0 w0 n dA z s1 a w := by
  obtain ⟨cA,b,vs,t,S1,w1,h1,h2,h3,h4,h5,h6,h7,h8,h9⟩ := h
  refine ⟨cA,b,vs,t,S1,w1,h1,h2,h3,h4,h5,h6,h7,h8,h9.ext (fun u => ?_) hl ho⟩
  simp only [getR]
  split
  · rfl
  · exact hr u
theorem Inv.early (inv : Inv N c0 S0 w0 n s a w) (hlv : Lv n S0) {t : TypeId} (hz : zeroOK P t z = true) (hd : dA < N) {o : Oper} (hop : o.op = .alloc t) (hdst : o.dst = some dA) {K : Act → World → Prop} {Q : Exit → Act → World → Prop}
    (hK : ∀ a' w',HInv N c0 S0 w0 n dA z s a' w' → K a' w') : o.wp P a w K Q := by
  unfold zeroOK at hz
  split at hz
  · rename_i i hi
    split at hz
    · rename_i v hv
      obtain ⟨c,fp,sim,ha,hg,hdom,hn⟩ := inv
      obtain ⟨_,hc,ht⟩ := litsOK_R (c := c) (S := s.get) (h := hp w) hz
      have hgs : gt s.o = hideS s.get n := by rw [gt_get,hn]
      have fb := fresh_block sim.st
      have hrun : (execOp a.eval o).run P w = .ok (.value (.pointer (some ⟨w.heap.size,0,none⟩))) (w.alloc (.cells v.cells t)) := by
        obtain ⟨dst,op,type,pos,after,guard⟩ := o
        simp only at hop
        subst hop
        show (do pure (Next.value (← Instr.alloc t true (.tuple #[]))) : Sem Next).run P w = _
        simp [Instr.alloc,run_newVar,zeroValue,typeInfo,hi,hv]
      unfold Oper.wp
      rw [hrun]
      show K (a.put o.dst _) _
      rw [hdst]
      refine hK _ _ ⟨c,w.heap.size,v.cells.toList,t,gt s.o,w.alloc (.cells v.cells t),fb.1,⟨ha.F,ha.X,fun id ob h => ?_⟩,hg.trans (Grew.alloc w _),fun id ob h => ?_,by rw [← hn]; exact gt_lv s.o,hc,upTos_trees ht,fun c S h => (litsOK_R hz).1, ?_⟩
      · obtain ⟨ob',h1,h2⟩ := ha.st id ob h
        refine ⟨ob', ?_,h2⟩
        have := hlv id ob h
        rw [hgs]
        simp only [hideS,this,if_true]
        exact h1
      · rw [hgs] at h
        simp only [hideS] at h
        split at h
        · rename_i hlt
          rcases hdom id ob h with e | e
          · omega
          · exact e
        · cases h
      · have hcell : v.cells.toList.toArray = v.cells := by simp
        rw [hcell]
        refine ⟨_,fp,⟨fun u => ?_,sim.st.hide _,sim.df,by simpa [Act.put] using sim.sz⟩,⟨fun _ _ h => h,rfl,fun id ob h => ⟨ob, ?_,StepOB.rfl' rfl⟩⟩,Grew.refl _,fun id ob h => ?_,hn⟩
        · rw [put_tmps hd sim.sz]
          simp only [getR]
          by_cases e : dA = u
          · rw [if_pos e,if_pos e]
            exact ⟨rfl,rfl,rfl⟩
          · rw [if_neg e,if_neg e]
            exact RVal.xch (sim.rg u)
        · show s.get id = some ob
          rw [hgs] at h
          simp only [hideS] at h
          split at h
          · exact h
          · cases h
        · have h : s.get id = some ob := h
          have hle := get_lvl h
          rw [hn] at hle
          rcases Nat.lt_or_eq_of_le hle with h2 | h2
          · right
            refine ⟨ob, ?_⟩
            rw [hgs]
            simp only [hideS,h2,if_true]
            exact h
          · exact .inl h2
    · cases hz
  · cases hz
theorem HInv.step (hs : SoundC P call) {ops : Array Oper} {ai : AI} {o : Oper} {K : Act → World → Prop} {Q : Exit → Act → World → Prop} (inv : HInv N c0 S0 w0 n dA z s a w) (hk : okAI P N ops ai o = true) (hx : dA ∉ opdTmps ai.xs) (hg : ∀ j b,ai.g = some (j,b) → j ≠ dA) (hdd : ai.d ≠ some dA) (e : stepI call s ai = some s2)
    (hK : ∀ a' w',HInv N c0 S0 w0 n dA z s2 a' w' → K a' w') : if Region.wanted o (yielded ops a.tmps) = true then o.wp P a w K Q else K (a.put o.dst undef) w := by
  obtain ⟨cA,b,vs,t,S1,w1,h1,h2,h3,h4,h5,h6,h7,h8,h9⟩ := inv
  obtain ⟨gb,hgb⟩ := gate_some e
  have hev : ∀ x ∈ ai.xs,(s.wr ((dA,.sc (.pointer (some ⟨b,0,none⟩))) :: s.r)).ev x = s.ev x := by
    intro x hxx
    cases x with
    | t u =>
      simp only [St.ev,St.wr,getR]
      rw [if_neg]
      intro e
      subst e
      exact hx (mem_opdTmps hxx)
    | k v => rfl
    | f v => rfl
  have hgate : gate (s.wr ((dA,.sc (.pointer (some ⟨b,0,none⟩))) :: s.r)) ai = gate s ai := gate_eq fun j w hj => by
    simp only [St.wr,getR]
    rw [if_neg (Ne.symm (hg j w hj))]
  have hreg : ∀ (y : PV) (u : Nat),getR ((s.wr ((dA,.sc (.pointer (some ⟨b,0,none⟩))) :: s.r)).put ai.d y).r u = getR ((dA,.sc (.pointer (some ⟨b,0,none⟩))) :: (s.put ai.d y).r) u := by
    intro y u
    cases hd : ai.d with
    | none => rfl
    | some d =>
      have hne : d ≠ dA := fun e => hdd (by rw [hd,e])
      simp only [St.put,St.wr,getR]
      by_cases e1 : d = u
      · have e2 : ¬ dA = u := fun e => hne (by omega)
        simp only [e1,e2,if_true,if_false]
      · by_cases e2 : dA = u
        · simp only [e1,e2,if_true,if_false]
        · simp only [e1,e2,if_false]
  have hst : ∃ y,s2.r = (s.put ai.d y).r ∧ stepI call (s.wr ((dA,.sc (.pointer (some ⟨b,0,none⟩))) :: s.r)) ai = some (s2.wr ((s.wr ((dA,.sc (.pointer (some ⟨b,0,none⟩))) :: s.r)).put ai.d y).r) := by
    cases gb with
    | true =>
      rw [stepI_t hgb] at e
      rw [stepI_t (hgate.trans hgb)]
      exact stepGo_wr _ hev e
    | false =>
      rw [stepI_f hgb] at e
      rw [stepI_f (hgate.trans hgb)]
      simp only [Option.some.injEq] at e
      subst e
      refine ⟨.non,rfl, ?_⟩
      cases ai.d <;> rfl
  obtain ⟨y,e1,e2⟩ := hst
  refine ai_ok hs h5 h9 hk e2 fun a' w' inv' => hK _ _ ⟨cA,b,vs,t,S1,w1,h1,h2,h3,h4,h5,h6,h7,h8,inv'.ext (fun u => ?_) rfl rfl⟩
  have := hreg y u
  simp only [St.wr] at this ⊢
  rw [this]
  simp only [getR]
  rw [e1]
theorem HInv.settle (inv : HInv N c0 S0 w0 n dA z s a w) (hfr : s.get (n,dA) = none) (hd : dA < N) : s.o.length = n ∧ Inv N c0 S0 w0 n ((s.set (n,dA) (.box z)).put (some dA) (.ref (n,dA) 1 0 0)) a w := by
  obtain ⟨cA,b,vs,t,S1,w1,h1,h2,h3,h4,h5,h6,h7,h8,c,fp,sim,ha,hg,hdom,hn⟩ := inv
  have hn : s.o.length = n := hn
  refine ⟨hn, ?_⟩
  have hget : (⟨(dA,.sc (.pointer (some ⟨b,0,none⟩))) :: s.r,s.l,s.o⟩ : St).get = s.get := rfl
  rw [hget] at ha
  have hdom : ∀ id ob,s.get id = some ob → id.1 = n ∨ ∃ ob',S1 id = some ob' := hdom
  have hst : StOK c s.get (hp w) fp := sim.st
  have hX : c.X = fun x => if x = b then some (.cells vs.toArray t) else cA.X x := ha.X
  have hXb : c.X b = some (.cells vs.toArray t) := by rw [hX]; simp
  have hb : hp w b = some (.cells vs.toArray t) := hst.okF b _ (.inr hXb)
  have hFb : c.F b = none := by
    cases h : c.F b with
    | none => rfl
    | some o => have := hst.dis b o h; rw [hXb] at this; cases this
  have hst2 : StOK (c.withX cA.X) s.get (hp w) fp := hst.unhide fun x o h => by
    rw [hX]
    show (if x = b then _ else _) = _
    rw [if_neg,h]
    intro e
    subst e
    rw [h1.2] at h; cases h
  have hfb : ∀ id ob,s.get id = some ob → b ∉ fp id := fun id ob h hm => by
    have := (hst.nF id ob h b hm).2
    rw [hXb] at this; cases this
  have hid : ∀ ws : List (Id × OB),ws = [((n,dA),OB.box z)] → ∀ x ∈ ws,x.1.1 ≤ s.o.length := fun ws e x hx => by
    subst e
    simp only [List.mem_singleton] at hx
    subst hx
    exact Nat.le_of_eq hn.symm
  have hgs : (s.set (n,dA) (.box z)).get = upd s.get (n,dA) (.box z) := by
    have := get_sets [((n,dA),.box z)] s (hid _ rfl)
    simpa [St.sets,upds] using this
  have hadv : Adv (c.withX cA.X) (setL (c.withX cA.X) (n,dA) ⟨b,none,0⟩) s.get (upd s.get (n,dA) (.box z)) := Adv.new hfr
  have hst3 : StOK (setL (c.withX cA.X) (n,dA) ⟨b,none,0⟩) (upd s.get (n,dA) (.box z)) (hp w) (setF fp (n,dA) [b]) := by
    refine hst2.step hadv (fun x => x = (n,dA)) ?_ ?_ (fun b o h => hst2.okF b o h) hst2.dis
    · intro x ob' hx hne
      have hx' : s.get x = some ob' := by simpa [upd,hne] using hx
      exact ⟨hx',by simp [setL,hne],by simp [setF,hne],fun b hb => ⟨rfl,hst2.nF x ob' hx' b hb⟩⟩
    · rintro x ob' hx rfl
      have he : ob' = .box z := by simpa [upd,eq_comm] using hx
      subst he
      refine ⟨?_,by simp [setF],fun b' hb' => ?_,fun id' ob'' hne hs b' hb' => ?_⟩
      · refine ⟨vs.toArray,t, ?_,h6,by simpa using h8 _ _ _, ?_⟩
        · simp only [setL,if_true]; exact hb
        · simp [setL,setF,h7]
      · simp only [setF,if_true,List.mem_singleton] at hb'
        subst hb'
        exact ⟨hFb,h1.2⟩
      · simp only [setF,if_true,List.mem_singleton] at hb'
        subst hb'
        simp only [setF,hne,if_false]
        exact hfb id' ob'' (by simpa [upd,hne] using hs)
  have hlen : (s.set (n,dA) (.box z)).o.length = n := by
    have := sets_o_length [((n,dA),.box z)] s
    simpa [St.sets,hn] using this
  refine ⟨_,_,⟨fun u => ?_,by rw [get_put,hgs]; exact hst3,sim.df,sim.sz⟩,⟨fun x o h => ?_, ?_,fun id ob h => ?_⟩,h3.trans hg,fun id ob h => ?_,by rw [put_o]; exact hlen⟩
  · rw [get_put,hgs]
    have hsr : (s.set (n,dA) (.box z)).r = s.r := by unfold St.set; split <;> rfl
    simp only [St.put,getR,hsr]
    have hu := sim.rg u
    simp only [getR] at hu
    by_cases e : dA = u
    · rw [if_pos e] at hu ⊢
      have hv := sc_eq hu
      rw [hv]
      exact ⟨rfl,_,rfl,rfl,by simp [RefOK,upd,setL]⟩
    · rw [if_neg e] at hu ⊢
      have := RVal.xch (X := cA.X) (h' := hp w) hu
      exact this.adv hadv
  · exact ha.F x o (h2.F x o h)
  · exact h2.X
  · rw [get_put,hgs]
    obtain ⟨ob1,g1,g2⟩ := h2.st id ob h
    obtain ⟨ob2,g3,g4⟩ := ha.st id ob1 g1
    have hne : id ≠ (n,dA) := fun e => by rw [e] at g3; rw [hfr] at g3; cases g3
    refine ⟨ob2,by simp [upd,hne,g3], ?_⟩
    have g4' : StepOB cA (c.withX cA.X) id ob1 ob2 := g4
    exact (g2.trans g4').trans (StepOB.rfl' (by simp [setL,hne]))
  · rw [get_put,hgs] at h
    by_cases e : id = (n,dA)
    · left; rw [e]
    · have h' : s.get id = some ob := by simpa [upd,e] using h
      rcases hdom id ob h' with k | ⟨ob',k⟩
      · exact .inl k
      · exact .inr (h4 id ob' k)
end
end Go.Am
end
section
/- Every order of a drawn region with a variable made at any time comes to the machine's end. -/
set_option linter.unusedSimpArgs false
set_option linter.unusedVariables false
namespace Go.Am
open Go.RowKit
theorem okOp_alloc {P : Program} {z : List PV} {op : Op} (h : okOp P (.alloc z) op = true) : ∃ t,op = .alloc t ∧ zeroOK P t z = true := by
  cases op <;> first
    | exact ⟨_,rfl,h⟩
    | exact absurd h Bool.false_ne_true
    | (exfalso
       unfold okOp at h
       simp only at h
       split at h <;> first | (cases h; done) | (unfold okBuiltin at h; split at h <;> first | (cases h; done) | (rename_i e; cases e; done) | (rename_i e _; cases e; done) | (rename_i e _ _; cases e; done) | (simp_all; done)))
structure Late (P : Program) (N : Nat) (os os' : Array Oper) (as : List AI) (ps : Nat → Nat) (iA dA : Nat) (z : List PV) : Prop where
  sz : os'.size = os.size
  same : ∀ i,i ≠ iA → os'[i]? = os[i]?
  lt : iA < os.size
  sub : ∀ r ∈ afterOf os iA,r ∈ afterOf os' iA
  dep : ∀ i,i < os.size → iA ∈ afterOf os i → ∀ r ∈ afterOf os' iA,r ∈ afterOf os i
  ok : ∀ i o ai,os[i]? = some o → as[ps i]? = some ai → okAI P N os ai o = true
  ai : as[ps iA]? = some ⟨some dA,.alloc z,[],none⟩
  rd : ∀ i,i < os.size → ps i < ps iA → dA ∉ opdTmps (opX as (ps i)) ++ opG as (ps i)
section
variable {P : Program} {N n : Nat} {c0 : Ctx} {S0 : Sto} {w0 w : World} {os os' : Array Oper} {as : List AI} {ps : Nat → Nat} {call : CallF} {s s' : St} {a : Act} {st : Nat → St} {iA dA : Nat} {z : List PV}
theorem Late.aft (L : Late P N os os' as ps iA dA z) {i : Nat} (h : i ≠ iA) : afterOf os' i = afterOf os i := by simp only [afterOf,L.same i h]
theorem Late.top (L : Late P N os os' as ps iA dA z) (pl : Plan P N os' as ps) {i r : Nat} (hi : i < os.size) (hr : r ∈ afterOf os i) : r < os.size ∧ ps r < ps i := by
  have hi' : i < os'.size := by rw [L.sz]; exact hi
  rw [← L.sz]
  by_cases h : i = iA
  · subst h; exact pl.top i r hi' (L.sub r hr)
  · exact pl.top i r hi' (by rw [L.aft h]; exact hr)
theorem Late.all (L : Late P N os os' as ps iA dA z) (pl : Plan P N os' as ps) {listed : Array Bool} (hsz : listed.size = os.size) (h : Region.ready .any os listed = [] ∨ (List.range os.size).countP (fun i => !listed.getD i false) = 0) : ∀ i,i < os.size → listed.getD i false = true := by
  intro i hi
  refine Classical.byContradiction fun hu => ?_
  have hu : listed.getD i false = false := by simpa using hu
  rcases h with h | h
  · obtain ⟨m,⟨hm1,hm2⟩,hm3⟩ := min_pos (ps := ps) (f := fun k => k < os.size ∧ listed.getD k false = false) (ps i) ⟨i,⟨hi,hu⟩,Nat.le_refl _⟩
    have : m ∈ Region.ready .any os listed := by
      rw [mem_ready]
      refine ⟨?_,os[m],Array.getElem?_eq_getElem hm1,fun e he hb => ?_⟩
      · have hms : m < listed.size := by rw [hsz]; exact hm1
        simp only [Array.getD,hms,dif_pos] at hm2 ⊢
        exact hm2
      · have hmem : e.on ∈ afterOf os m := by
          simp only [afterOf,Array.getElem?_eq_getElem hm1]
          exact List.mem_map.2 ⟨e,List.mem_filter.2 ⟨Array.mem_toList_iff.2 he,hb⟩,rfl⟩
        obtain ⟨h1,h2⟩ := L.top pl hm1 hmem
        cases hl : listed.getD e.on false with
        | true => rfl
        | false => have := hm3 e.on ⟨h1,hl⟩; omega
    rw [h] at this; cases this
  · have := List.countP_eq_zero.1 h i (List.mem_range.2 hi)
    simp [hu] at this
theorem HInv.len (inv : HInv N c0 S0 w0 n dA z s a w) : s.o.length = n := by
  obtain ⟨cA,b,vs,t,S1,w1,h1,h2,h3,h4,h5,h6,h7,h8,c,fp,sim,ha,hg,hdom,hn⟩ := inv
  exact hn
theorem Late.made (L : Late P N os os' as ps iA dA z) (tr : Tr call as s s' st) : (st (ps iA)).get ((st (ps iA)).o.length,dA) = none ∧ st (ps iA + 1) = ((st (ps iA)).set ((st (ps iA)).o.length,dA) (.box z)).put (some dA) (.ref ((st (ps iA)).o.length,dA) 1 0 0) := by
  have h := tr.go _ _ L.ai
  rw [stepI_t (by rfl)] at h
  unfold stepGo at h
  simp only [List.map_nil,Option.getD_some] at h
  rw [core_core1 (by rfl)] at h
  simp only [core1] at h
  split at h
  · rename_i v ws hc
    split at hc
    · rename_i hn
      simp only [Option.some.injEq,Prod.mk.injEq] at hc h
      obtain ⟨rfl,rfl⟩ := hc
      exact ⟨by simpa using hn,by rw [← h]; rfl⟩
    · cases hc
  · cases h
theorem late_settle (L : Late P N os os' as ps iA dA z) (pl : Plan P N os' as ps) (tr : Tr call as s s' st) {listed0 listed : Array Bool} {q : Nat} (j : J os' as ps listed0 q) (hu : listed0.getD iA false = false) (hls : listed.size = os'.size) (hl : ∀ k,listed.getD k false = true ↔ k = iA ∨ listed0.getD k false = true)
    (haf : ∀ r ∈ afterOf os' iA,listed0.getD r false = true) (hdN : dA < N) (inv : HInv N c0 S0 w0 n dA z (stL os' s s' st listed0 q) a w) : J os' as ps listed (ps iA + 1) ∧ Inv N c0 S0 w0 n (stL os' s s' st listed (ps iA + 1)) a w := by
  have hiA : iA < os'.size := by rw [L.sz]; exact L.lt
  obtain ⟨oA,aiA,hoA,haiA,hokA,hckA,hdA,hKA,hXA⟩ := op_at pl hiA
  have haiE := haiA
  rw [L.ai] at haiE
  simp only [Option.some.injEq] at haiE
  subst haiE
  have hpl := pos_le pl hiA
  have hdst : dstOf os' iA = some dA := hdA.symm
  have hE : isEff as (ps iA) = true := by simp only [isEff,hKA]; rfl
  have hq : q ≤ ps iA := by
    rcases Nat.lt_or_ge (ps iA) q with h | h
    · have := (j.eff iA hiA hE).2 h; rw [hu] at this; cases this
    · exact h
  have hbefore : ∀ e,e < os'.size → isEff as (ps e) = true → ps e < ps iA → ps e < q := fun e he hee h =>
    (j.eff e he hee).1 (anc_listed pl j.clo _ iA e hiA haf (pl.aft iA e hiA he hee h))
  have hobj := objs_between pl tr hq (Nat.le_of_lt hpl) fun r h1 h2 => by
    cases he : isEff as r with
    | false => rfl
    | true =>
      obtain ⟨a',ha'⟩ : ∃ a',as[r]? = some a' := ⟨_,List.getElem?_eq_getElem (by omega)⟩
      rcases pl.pos r a' ha' with ⟨h,_⟩ | ⟨e,oe,hoe,rfl⟩
      · simp [isEff,opK,ha',h] at he
      · have := hbefore e (Array.getElem?_eq_some_iff.1 hoe).1 he h2
        omega
  refine ⟨⟨hls, ?_,fun e he hee => ?_,hpl⟩, ?_⟩
  · intro k hk hkl r hr
    rcases (hl k).1 hkl with rfl | hkl
    · exact (hl r).2 (.inr (haf r hr))
    · exact (hl r).2 (.inr (j.clo k hk hkl r hr))
  · rw [hl]
    constructor
    · rintro (rfl | h)
      · omega
      · have := (j.eff e he hee).1 h
        omega
    · intro h
      by_cases hei : e = iA
      · exact .inl hei
      · have hne : ps e ≠ ps iA := fun h' => hei (pl.inj e iA he hiA h')
        exact .inr ((j.eff e he hee).2 (hbefore e he hee (by omega)))
  · obtain ⟨hfr,hmk⟩ := L.made tr
    have hlen := inv.len
    have hlen2 : (st (ps iA)).o.length = n := by rw [hobj.2]; exact hlen
    have hget : (stL os' s s' st listed0 q).get = (st (ps iA)).get := get_ext hobj.1.symm hobj.2.symm
    rw [hlen2] at hfr hmk
    obtain ⟨_,hinv⟩ := inv.settle (by rw [hget]; exact hfr) hdN
    refine hinv.ext (fun t => ?_) ?_ ?_
    · have hsr : ∀ (x : St) id ob,(x.set id ob).r = x.r := fun x id ob => by unfold St.set; split <;> rfl
      have hval : getR s'.r dA = .ref (n,dA) 1 0 0 := by
        have := regs_done pl tr (i := iA) (t := dA) hdst (Nat.lt_succ_self _) hpl
        rw [← this,hmk]
        simp [St.put,getR]
      simp only [St.put,getR,hsr]
      simp only [stL,getR_regsL]
      by_cases e : dA = t
      · subst e
        rw [if_pos rfl,if_pos ⟨iA,(hl iA).2 (.inl rfl),hdst⟩]
        exact hval
      · rw [if_neg e]
        have e1 : (∃ k,listed.getD k false = true ∧ dstOf os' k = some t) ↔ ∃ k,listed0.getD k false = true ∧ dstOf os' k = some t := by
          constructor
          · rintro ⟨k,h1,h2⟩
            rcases (hl k).1 h1 with rfl | h1
            · rw [hdst] at h2; injection h2 with h2; exact absurd h2 e
            · exact ⟨k,h1,h2⟩
          · rintro ⟨k,h1,h2⟩
            exact ⟨k,(hl k).2 (.inr h1),h2⟩
        by_cases h : ∃ k,listed0.getD k false = true ∧ dstOf os' k = some t
        · rw [if_pos h,if_pos (e1.2 h)]
        · rw [if_neg h,if_neg (fun h' => h (e1.1 h'))]
    · show (st (ps iA + 1)).l = _
      rw [hmk]
      simp only [St.put,St.set,hlen2,if_true,stL,show (st q).o.length = n from hlen]
      rw [hobj.1]
    · show (st (ps iA + 1)).o = _
      rw [hmk]
      simp only [St.put,St.set,hlen2,if_true,stL,show (st q).o.length = n from hlen]
      rw [hobj.2]
theorem late_any (hs : SoundC P call) (hlv : Lv n S0) (L : Late P N os os' as ps iA dA z) (pl : Plan P N os' as ps) (tr : Tr call as s s' st) {Q : Exit → Act → World → Prop} (hQ : ∀ a' w',Inv N c0 S0 w0 n s' a' w' → Q .normal a' w') :
    ∀ (fuel : Nat) (listed : Array Bool) (a : Act) (w : World),listed.size = os.size →
      ((∃ q,J os' as ps listed q ∧ Inv N c0 S0 w0 n (stL os' s s' st listed q) a w) ∨
       (∃ listed0 q,J os' as ps listed0 q ∧ listed0.getD iA false = false ∧ (∀ k,listed.getD k false = true ↔ k = iA ∨ listed0.getD k false = true) ∧ HInv N c0 S0 w0 n dA z (stL os' s s' st listed0 q) a w)) →
      (List.range os.size).countP (fun i => !listed.getD i false) ≤ fuel → wpAny P .any os Q fuel listed a w := by
  have hiA : iA < os'.size := by rw [L.sz]; exact L.lt
  obtain ⟨oA,aiA,hoA',haiA,hokA,hckA,hdA,hKA,hXA⟩ := op_at pl hiA
  have haiE := haiA
  rw [L.ai] at haiE
  simp only [Option.some.injEq] at haiE
  subst haiE
  have hdst : dstOf os' iA = some dA := hdA.symm
  have hdN : dA < N := by
    simp only [okAI,Bool.and_eq_true] at hokA
    exact okDst_spec hokA.1.1.1.2 dA rfl
  -- the end
  have done : ∀ {listed : Array Bool} {q : Nat} {a : Act} {w : World},J os' as ps listed q → (∀ i,i < os.size → listed.getD i false = true) → Inv N c0 S0 w0 n (stL os' s s' st listed q) a w → Q .normal a w := by
    intro listed q a w j hall inv
    refine hQ _ _ (inv.ext (fun t => ?_) ?_ ?_)
    · simp only [stL,getR_regsL]
      by_cases h : ∃ i,listed.getD i false = true ∧ dstOf os' i = some t
      · rw [if_pos h]
      · rw [if_neg h,← tr.e]
        exact regs_none pl tr (fun i hi => h ⟨i,hall i (by rw [← L.sz]; exact dst_lt hi),hi⟩) (Nat.le_refl _)
    all_goals
      have := objs_between pl tr (p := q) (p' := as.length) j.le (Nat.le_refl _) (fun r h1 h2 => by
        cases he : isEff as r with
        | false => rfl
        | true =>
          obtain ⟨a',ha'⟩ : ∃ a',as[r]? = some a' := ⟨_,List.getElem?_eq_getElem h2⟩
          rcases pl.pos r a' ha' with ⟨h,_⟩ | ⟨e,oe,hoe,rfl⟩
          · simp [isEff,opK,ha',h] at he
          · have hes : e < os'.size := (Array.getElem?_eq_some_iff.1 hoe).1
            have := (j.eff e hes he).1 (hall e (by rw [← L.sz]; exact hes))
            omega)
      rw [tr.e] at this
      first | exact this.1 | exact this.2
  -- settled,or an operation is missing ahead of it
  have settle : ∀ {listed : Array Bool} {a : Act} {w : World},listed.size = os.size →
      ((∃ q,J os' as ps listed q ∧ Inv N c0 S0 w0 n (stL os' s s' st listed q) a w) ∨
       (∃ listed0 q,J os' as ps listed0 q ∧ listed0.getD iA false = false ∧ (∀ k,listed.getD k false = true ↔ k = iA ∨ listed0.getD k false = true) ∧ HInv N c0 S0 w0 n dA z (stL os' s s' st listed0 q) a w)) →
      ((∃ q,J os' as ps listed q ∧ Inv N c0 S0 w0 n (stL os' s s' st listed q) a w) ∨
       (∃ listed0 q,J os' as ps listed0 q ∧ listed0.getD iA false = false ∧ (∀ k,listed.getD k false = true ↔ k = iA ∨ listed0.getD k false = true) ∧ HInv N c0 S0 w0 n dA z (stL os' s s' st listed0 q) a w ∧ ∃ r ∈ afterOf os' iA,listed0.getD r false = false)) := by
    intro listed a w hsz h
    rcases h with h | ⟨listed0,q,j,hu,hl,inv⟩
    · exact .inl h
    · by_cases haf : ∀ r ∈ afterOf os' iA,listed0.getD r false = true
      · have := late_settle L pl tr j hu (by rw [L.sz]; exact hsz) hl haf hdN inv
        exact .inl ⟨_,this⟩
      · refine .inr ⟨listed0,q,j,hu,hl,inv, ?_⟩
        refine Classical.byContradiction fun hn => haf fun r hr => ?_
        cases hx : listed0.getD r false with
        | true => rfl
        | false => exact absurd ⟨r,hr,hx⟩ hn
  -- nothing is left
  have fin0 : ∀ {listed : Array Bool} {a : Act} {w : World},listed.size = os.size → (∀ i,i < os.size → listed.getD i false = true) →
      ((∃ q,J os' as ps listed q ∧ Inv N c0 S0 w0 n (stL os' s s' st listed q) a w) ∨
       (∃ listed0 q,J os' as ps listed0 q ∧ listed0.getD iA false = false ∧ (∀ k,listed.getD k false = true ↔ k = iA ∨ listed0.getD k false = true) ∧ HInv N c0 S0 w0 n dA z (stL os' s s' st listed0 q) a w)) → Q .normal a w := by
    intro listed a w hsz hall h
    rcases settle hsz h with ⟨q,j,inv⟩ | ⟨listed0,q,j,hu,hl,inv,r,hr,hx⟩
    · exact done j hall inv
    · obtain ⟨h1,h2⟩ := pl.top iA r hiA hr
      have := (hl r).1 (hall r (by rw [← L.sz]; exact h1))
      rcases this with rfl | this
      · omega
      · rw [hx] at this; cases this
  intro fuel
  induction fuel with
  | zero =>
    intro listed a w hsz h hc
    have hall := L.all pl hsz (.inr (Nat.le_zero.1 hc))
    refine ⟨?_,fin0 hsz hall h⟩
    refine List.eq_nil_iff_forall_not_mem.2 fun i hi => ?_
    obtain ⟨h0,o,ho,_⟩ := mem_ready.1 hi
    have his : i < os.size := (Array.getElem?_eq_some_iff.1 ho).1
    have h1 := hall i his
    have hms : i < listed.size := by rw [hsz]; exact his
    simp only [Array.getD,hms,dif_pos] at h0 h1
    rw [h0] at h1; cases h1
  | succ fuel ih =>
    intro listed a w hsz h hc
    refine ⟨fun hr => fin0 hsz (L.all pl hsz (.inl hr)) h,fun i hi => ?_⟩
    obtain ⟨h0,o,ho,haft⟩ := mem_ready.1 hi
    have his : i < os.size := (Array.getElem?_eq_some_iff.1 ho).1
    have his' : i < os'.size := by rw [L.sz]; exact his
    have hms : i < listed.size := by rw [hsz]; exact his
    have hun : listed.getD i false = false := by
      simp only [Array.getD,hms,dif_pos] at h0 ⊢
      exact h0
    have haf : ∀ r ∈ afterOf os i,listed.getD r false = true := by
      intro r hr
      simp only [afterOf,ho] at hr
      obtain ⟨e,he,rfl⟩ := List.mem_map.1 hr
      obtain ⟨he1,he2⟩ := List.mem_filter.1 he
      exact haft e (Array.mem_toList_iff.1 he1) he2
    have hcount : (List.range os.size).countP (fun k => !(listed.setIfInBounds i true).getD k false) ≤ fuel := by
      have := countP_lt (p := fun k => !listed.getD k false) (p' := fun k => !(listed.setIfInBounds i true).getD k false) (l := List.range os.size) (i := i) (fun x hx => by
        have hx' : (listed.setIfInBounds i true).getD x false = false := by simpa using hx
        have : ¬ listed.getD x false = true := fun h => by rw [(listed_set hms).2 (.inr h)] at hx'; cases hx'
        simpa using this) (List.mem_range.2 his) (by simp only [hun]; rfl) (by simp only [(listed_set hms).2 (.inl rfl)]; rfl)
      omega
    unfold wpOp
    simp only [ho]
    have fork : ∀ {b : Prop} [Decidable b] {x y z' : Prop},(if b then x else y) → if b then x ∨ z' else y := by
      intro b _ x y z' h
      split
      · rename_i hb; rw [if_pos hb] at h; exact .inl h
      · rename_i hb; rw [if_neg hb] at h; exact h
    rcases settle hsz h with ⟨q,j,inv⟩ | ⟨listed0,q,j,hu,hl,inv,r,hr,hx⟩
    · by_cases hi2 : i = iA
      · -- it is made early
        subst hi2
        have hok := L.ok i o _ ho L.ai
        simp only [okAI,Bool.and_eq_true] at hok
        obtain ⟨⟨⟨⟨k1,k2⟩,k3⟩,k4⟩,k5⟩ := hok
        have k1 : some dA = o.dst := eq_of_beq k1
        have k5 : okOp P (.alloc z) o.op = true := by
          have : (if isCall (K.alloc z) = true then okCall o.op else !isChk (K.alloc z) && okOp P (.alloc z) o.op) = true := k5
          simpa [isCall,isChk] using this
        obtain ⟨t,hop,hz⟩ : ∃ t,o.op = .alloc t ∧ zeroOK P t z = true := by
          exact okOp_alloc k5
        have hw : Region.wanted o (yielded os a.tmps) = true := by
          have k3 : okG os none o.guard = true := k3
          unfold okG at k3
          split at k3
          · rename_i h1 h2; simp [Region.wanted,h2]
          · rename_i h1 h2; cases h1
          · cases k3
        rw [if_pos hw]
        refine .inl (Inv.early inv hlv hz hdN hop k1.symm fun a' w' inv' => ih _ a' w' (by simp [hsz]) (.inr ⟨listed,q,j,hun,fun k => listed_set hms,inv'⟩) hcount)
      · obtain ⟨ai,hai,hok,hck⟩ := pl.op i o (by rw [L.same i hi2]; exact ho)
        obtain ⟨s2,q',h1,h2,h3,h4,h5⟩ := one_more pl tr j his' hai hun (by rw [L.aft hi2]; exact haf)
        exact fork (ai_ok (Q := Q) (K := wpAny P .any os Q fuel (listed.setIfInBounds i true)) hs hlv inv (L.ok i o ai ho hai) h1 (fun a' w' inv' => ih _ a' w' (by simp [hsz]) (.inl ⟨q',h2,inv'.ext h3 h4 h5⟩) hcount))
    · -- an operation beside it
      have hi2 : i ≠ iA := fun e => by
        subst e
        rw [(hl i).2 (.inl rfl)] at hun; cases hun
      have hun0 : listed0.getD i false = false := by
        cases h : listed0.getD i false with
        | false => rfl
        | true => rw [(hl i).2 (.inr h)] at hun; cases hun
      have hnA : iA ∉ afterOf os i := fun hm => by
        have hri := haf r (L.dep i his hm r hr)
        rcases (hl r).1 hri with rfl | h
        · have := (pl.top r r hiA hr).2; omega
        · rw [hx] at h; cases h
      have haf0 : ∀ r ∈ afterOf os' i,listed0.getD r false = true := by
        intro r' hr'
        rw [L.aft hi2] at hr'
        rcases (hl r').1 (haf r' hr') with rfl | h
        · exact absurd hr' hnA
        · exact h
      have hE : isEff as (ps iA) = true := by simp only [isEff,hKA]; rfl
      have hbef : ps i < ps iA := by
        rcases Nat.lt_trichotomy (ps i) (ps iA) with h | h | h
        · exact h
        · exact absurd (pl.inj i iA his' hiA h) hi2
        · have := anc_listed pl j.clo _ i iA his' haf0 (pl.aft i iA his' hiA hE h)
          rw [hu] at this; cases this
      obtain ⟨ai,hai,hok,hck⟩ := pl.op i o (by rw [L.same i hi2]; exact ho)
      obtain ⟨s2,q',h1,h2,h3,h4,h5⟩ := one_more pl tr j his' hai hun0 haf0
      have hrd := L.rd i his hbef
      have hXi : opX as (ps i) = ai.xs := by simp [opX,hai]
      have hGi : ∀ j b,ai.g = some (j,b) → j ∈ opG as (ps i) := fun j b h => by simp [opG,hai,h]
      have hdi : ai.d ≠ some dA := fun e => by
        obtain ⟨o',ai',_,g1,_,_,g3,_⟩ := op_at pl his'
        rw [hai] at g1
        simp only [Option.some.injEq] at g1
        subst g1
        rw [g3] at e
        exact hi2 (pl.dst i iA dA e hdst)
      have hms0 : i < listed0.size := by rw [j.size]; exact his'
      refine fork (HInv.step (Q := Q) (K := wpAny P .any os Q fuel (listed.setIfInBounds i true)) hs inv (L.ok i o ai ho hai) (fun h => hrd (List.mem_append_left _ (by rw [hXi]; exact h))) (fun j' b hj' e => hrd (List.mem_append_right _ (by rw [← e]; exact hGi j' b hj'))) hdi h1 (fun a' w' inv' => ih _ a' w' (by simp [hsz]) (.inr ⟨listed0.setIfInBounds i true,q',h2, ?_,fun k => ?_,inv'.ext h3 h4 h5⟩) hcount))
      · cases hh : (listed0.setIfInBounds i true).getD iA false with
        | false => rfl
        | true =>
          rcases (listed_set hms0).1 hh with e | e
          · exact absurd e.symm hi2
          · rw [hu] at e; cases e
      · rw [listed_set hms,listed_set hms0,hl]
        constructor
        · rintro (h | h | h)
          · exact .inr (.inl h)
          · exact .inl h
          · exact .inr (.inr h)
        · rintro (h | h | h)
          · exact .inr (.inl h)
          · exact .inl h
          · exact .inr (.inr h)
theorem late_ok (hs : SoundC P call) (hlv : Lv n S0) (hm : P.follows .mixedOrders = true) (L : Late P N os os' as ps iA dA z) (pl : Plan P N os' as ps) {id : Nat} {Q : Exit → Act → World → Prop} (e : steps call s as = some s') (inv : Inv N c0 S0 w0 n s a w) (hQ : ∀ a' w',Inv N c0 S0 w0 n s' a' w' → Q .normal a' w') :
    (Code.region id os true).wp P Q a w := by
  obtain ⟨st,t1,t2,t3⟩ := trace e
  have tr : Tr call as s s' st := ⟨t1,t2,t3⟩
  refine wp_region_any hm (late_any hs hlv L pl tr hQ _ _ _ _ (by simp) (.inl ⟨0,⟨by simp [L.sz], ?_, ?_,Nat.zero_le _⟩, ?_⟩) ?_)
  · intro i hi h
    rw [L.sz] at hi
    simp [hi] at h
  · intro e he _
    rw [L.sz] at he
    simp [he]
  · have hinv : Inv N c0 S0 w0 n s a { w with drawn := w.drawn + 1 } := by
      obtain ⟨c,fp,sim,ha,hg,hd,hn⟩ := inv
      exact ⟨c,fp,⟨sim.rg,sim.st,sim.df,sim.sz⟩,ha,hg.trans ⟨rfl,rfl,rfl,Nat.le_refl _,fun _ _ => rfl,Nat.le_succ _⟩,hd,hn⟩
    refine hinv.ext (fun t => ?_) (by simp [stL,tr.z]) (by simp [stL,tr.z])
    simp only [stL,getR_regsL]
    rw [if_neg]
    rintro ⟨i,h,hi⟩
    have := dst_lt hi
    rw [L.sz] at this
    simp [this] at h
  · exact Nat.le_trans List.countP_le_length (by simp)
end
end Go.Am
end
section
/- The form of drawn regions,as a test. -/
set_option linter.unusedSimpArgs false
set_option linter.unusedVariables false
namespace Go.Am
open Go.RowKit
def eqL : PV → PV → Bool
  | .sc (.int k a),.sc (.int k' b) => decide (k = k') && decide (a = b)
  | .sc (.bool a),.sc (.bool b) => a == b
  | _,_ => false
theorem eqL_spec {x y : PV} (h : eqL x y = true) : x = y := by
  unfold eqL at h
  split at h
  · simp only [Bool.and_eq_true,decide_eq_true_eq] at h; obtain ⟨rfl,rfl⟩ := h; rfl
  · obtain rfl := eq_of_beq h; rfl
  · cases h
def eqO : Opd → Opd → Bool
  | .t a,.t b => a == b
  | .f a,.f b => a == b
  | .k x,.k y => eqL x y
  | _,_ => false
theorem eqO_spec {x y : Opd} (h : eqO x y = true) : x = y := by
  unfold eqO at h
  split at h
  · obtain rfl := eq_of_beq h; rfl
  · obtain rfl := eq_of_beq h; rfl
  · rw [eqL_spec h]
  · cases h
def eqOs : List Opd → List Opd → Bool
  | [],[] => true
  | x :: xs,y :: ys => eqO x y && eqOs xs ys
  | _,_ => false
theorem eqOs_spec : ∀ {xs ys : List Opd},eqOs xs ys = true → xs = ys
  | [],[],_ => rfl
  | [],_ :: _,h => by simp [eqOs] at h
  | _ :: _,[],h => by simp [eqOs] at h
  | x :: xs,y :: ys,h => by
    simp only [eqOs,Bool.and_eq_true] at h
    rw [eqO_spec h.1,eqOs_spec h.2]
def eqK : K → K → Bool
  | .load k t,.load k' t' => k == k' && t == t'
  | .faddr a,.faddr b => a == b
  | .iaddr a,.iaddr b => a == b
  | .iarr a b,.iarr a' b' => a == a' && b == b'
  | .len,.len => true
  | .nck,.nck => true
  | .bstr,.bstr => true
  | _,_ => false
theorem eqK_spec {x y : K} (h : eqK x y = true) : x = y := by
  unfold eqK at h
  split at h
  · simp only [Bool.and_eq_true] at h; obtain rfl := eq_of_beq h.1; obtain rfl := eq_of_beq h.2; rfl
  · obtain rfl := eq_of_beq h; rfl
  · obtain rfl := eq_of_beq h; rfl
  · simp only [Bool.and_eq_true] at h; obtain rfl := eq_of_beq h.1; obtain rfl := eq_of_beq h.2; rfl
  · rfl
  · rfl
  · rfl
  · cases h
def isChkOf (a b : AI) : Bool := match a.op,b.d,a.xs with
  | .chk k,some t,x :: xs => eqK k b.op && eqO x (.t t) && eqOs xs b.xs && a.g == b.g
  | _,_,_ => false
theorem isChkOf_spec {a b : AI} (h : isChkOf a b = true) : ∃ t,b.d = some t ∧ a.op = .chk b.op ∧ a.xs = .t t :: b.xs ∧ a.g = b.g := by
  unfold isChkOf at h
  split at h
  · rename_i k t x xs h1 h2 h3
    simp only [Bool.and_eq_true] at h
    exact ⟨t,h2,by rw [h1,eqK_spec h.1.1.1],by rw [h3,eqO_spec h.1.1.2,eqOs_spec h.1.2],eq_of_beq h.2⟩
  · cases h
def chkB (os : Array Oper) (as : List AI) (ps : Nat → Nat) (i p e : Nat) : Bool := (List.range as.length).any fun r => match as[r]?,as[p]? with
  | some a,some b => (List.range os.size).all (fun j => (match dstOf os j with | some u => !(opdTmps (opX as p) ++ opG as p).contains u | none => true) || !anc os os.size j i || decide (r ≤ ps j)) && decide (e < r) && (List.range as.length).all (fun q => !(decide (e < q) && decide (q < r)) || !isEff as q) && isChkOf a b
  | _,_ => false
def pairB (os : Array Oper) (as : List AI) (ps : Nat → Nat) (i j : Nat) : Bool :=
  (i == j || ps i != ps j) &&
  (match dstOf os i,dstOf os j with | some t,some u => t != u || i == j | _,_ => true) &&
  (match dstOf os j with | some t => !(opdTmps (opX as (ps i)) ++ opG as (ps i)).contains t || (anc os os.size i j || anc os os.size j i) | none => true) &&
  (!isEff as (ps j) || !decide (ps j < ps i) || anc os os.size i j) &&
  (!isEff as (ps j) || isEff as (ps i) || !decide (ps i < ps j) || anc os os.size j i || chkB os as ps i (ps i) (ps j) || isPure (opK as (ps i)))
def okDraw (P : Program) (N : Nat) (os : Array Oper) (as : List AI) (psl : List Nat) : Bool :=
  (List.range os.size).all (fun i => match os[i]?,as[psl.getD i 0]? with | some o,some ai => okAI P N os ai o && !isChk ai.op | _,_ => false) &&
  (List.range as.length).all (fun p => match as[p]? with | some ai => (isChk ai.op && ai.d.isNone) || (List.range os.size).any (fun i => psl.getD i 0 == p) | none => true) &&
  (List.range os.size).all (fun i => (List.range os.size).all fun j => pairB os as (fun i => psl.getD i 0) i j) &&
  (List.range os.size).all (fun i => (afterOf os i).all fun q => decide (q < os.size) && decide (psl.getD q 0 < psl.getD i 0))
theorem okDraw_plan {P : Program} {N : Nat} {os : Array Oper} {as : List AI} {psl : List Nat} (h : okDraw P N os as psl = true) : Plan P N os as (fun i => psl.getD i 0) := by
  simp only [okDraw,Bool.and_eq_true,List.all_eq_true,List.mem_range] at h
  obtain ⟨⟨⟨h1,h2⟩,h3⟩,h4⟩ := h
  have hp : ∀ i j,i < os.size → j < os.size → pairB os as (fun i => psl.getD i 0) i j = true := fun i j hi hj => h3 i hi j hj
  constructor
  · intro i o ho
    have := h1 i (Array.getElem?_eq_some_iff.1 ho).1
    rw [ho] at this
    split at this
    · rename_i o' ai e1 e2
      simp only [Option.some.injEq] at e1
      subst e1
      simp only [Bool.and_eq_true,Bool.not_eq_true'] at this
      exact ⟨ai,e2,this.1,this.2⟩
    · cases this
  · intro p ai hai
    have := h2 p (List.getElem?_eq_some_iff.1 hai).1
    rw [hai] at this
    simp only [Bool.or_eq_true,Bool.and_eq_true,Option.isNone_iff_eq_none,List.any_eq_true,List.mem_range,beq_iff_eq] at this
    rcases this with ⟨a,b⟩ | ⟨i,hi,hpi⟩
    · exact .inl ⟨a,b⟩
    · exact .inr ⟨i,os[i],Array.getElem?_eq_getElem hi,hpi⟩
  · intro i j hi hj e
    have := hp i j hi hj
    simp only [pairB,Bool.and_eq_true,Bool.or_eq_true,beq_iff_eq,bne_iff_ne] at this
    rcases this.1.1.1.1 with h | h
    · exact h
    · exact absurd e h
  · intro i j t hi hj
    have := hp i j (dst_lt hi) (dst_lt hj)
    simp only [pairB,hi,hj,Bool.and_eq_true,Bool.or_eq_true,beq_iff_eq,bne_iff_ne] at this
    rcases this.1.1.1.2 with h | h
    · exact absurd rfl h
    · exact h
  · intro i j t hj ht hi
    have := hp i j hi (dst_lt hj)
    simp only [pairB,hj,Bool.and_eq_true,Bool.or_eq_true,Bool.not_eq_true'] at this
    rcases this.1.1.2 with h | h
    · have h' : (opdTmps (opX as (psl.getD i 0)) ++ opG as (psl.getD i 0)).contains t = true := by simpa using ht
      rw [h'] at h; cases h
    · exact h
  · intro i q hi hq
    have := h4 i hi q hq
    simpa using this
  · intro i e hi he hE hlt
    have := hp i e hi he
    simp only [pairB,hE,Bool.and_eq_true,Bool.or_eq_true,Bool.not_eq_true',decide_eq_false_iff_not] at this
    rcases this.1.2 with (h | h) | h
    · cases h
    · exact absurd hlt h
    · exact h
  · intro i e hi he hE hE' hlt
    have := hp i e hi he
    simp only [pairB,hE,hE',Bool.and_eq_true,Bool.or_eq_true,Bool.not_eq_true',decide_eq_false_iff_not] at this
    rcases this.2 with ((((h | h) | h) | h) | h) | h
    · cases h
    · cases h
    · exact absurd hlt h
    · exact .inl h
    · refine .inr (.inl ?_)
      simp only [chkB,List.any_eq_true,List.mem_range] at h
      obtain ⟨r,hr,h⟩ := h
      split at h
      · rename_i a b ha hb
        simp only [Bool.and_eq_true,decide_eq_true_eq,List.all_eq_true,List.mem_range,Bool.or_eq_true,Bool.not_eq_true'] at h
        obtain ⟨⟨⟨h8,h5⟩,h6⟩,h7⟩ := h
        obtain ⟨t,g1,g2,g3,g4⟩ := isChkOf_spec h7
        refine ⟨r,a,b,t,ha,hb,g1,h5,fun q hq1 hq2 => ?_,g2,g3,g4,fun j u hj hu han => ?_⟩
        · rcases h6 q (by omega) with h | h
          · simp only [Bool.and_eq_false_iff,decide_eq_false_iff_not] at h
            omega
          · exact h
        · rcases h8 j (dst_lt hj) with (h | h) | h
          · rw [hj] at h
            have hu' : (opdTmps (opX as (psl.getD i 0)) ++ opG as (psl.getD i 0)).contains u = true := by simpa using hu
            simp only [hu'] at h
            cases h
          · rw [han] at h; cases h
          · exact h
      · cases h
    · exact .inr (.inr h)
def lateP (as : List AI) (psl : List Nat) (iA j : Nat) : Bool := decide (psl.getD j 0 < psl.getD iA 0) && !isPure (opK as (psl.getD j 0))
def lateOps (os : Array Oper) (as : List AI) (psl : List Nat) (iA : Nat) : Array Oper := os.modify iA fun o => { o with after := (((List.range os.size).filter fun j => lateP as psl iA j).map fun j => (⟨j,.data⟩ : Edge)).toArray }
def lateB (P : Program) (N : Nat) (os : Array Oper) (as : List AI) (psl : List Nat) (iA : Nat) : Bool :=
  match as[psl.getD iA 0]? with
  | some ⟨some dA,.alloc _,[],none⟩ =>
    okDraw P N (lateOps os as psl iA) as psl && decide (iA < os.size) && (afterOf os iA).all (fun r => decide (r < os.size) && lateP as psl iA r) &&
    (List.range os.size).all (fun i => !(afterOf os i).contains iA || (List.range os.size).all fun r => !lateP as psl iA r || (afterOf os i).contains r) &&
    (List.range os.size).all (fun i => match os[i]?,as[psl.getD i 0]? with | some o,some ai => okAI P N os ai o | _,_ => false) &&
    (List.range os.size).all (fun i => !decide (psl.getD i 0 < psl.getD iA 0) || !(opdTmps (opX as (psl.getD i 0)) ++ opG as (psl.getD i 0)).contains dA)
  | _ => false
def okLate (P : Program) (N : Nat) (os : Array Oper) (as : List AI) (psl : List Nat) : Bool := (List.range os.size).any (lateB P N os as psl)
theorem lateOps_after {os : Array Oper} {as : List AI} {psl : List Nat} {iA : Nat} (h : iA < os.size) : afterOf (lateOps os as psl iA) iA = (List.range os.size).filter fun j => lateP as psl iA j := by
  have h2 : iA < (lateOps os as psl iA).size := by simpa [lateOps] using h
  simp only [afterOf,Array.getElem?_eq_getElem h2]
  simp only [lateOps,Array.getElem_modify_self,List.toList_toArray]
  generalize (List.range os.size).filter (fun j => lateP as psl iA j) = l
  induction l with
  | nil => rfl
  | cons x l ih =>
    simp only [List.map_cons,List.filter_cons]
    rw [if_pos (by rfl)]
    simp only [List.map_cons,ih]
theorem okLate_spec {P : Program} {N : Nat} {os : Array Oper} {as : List AI} {psl : List Nat} (h : okLate P N os as psl = true) : ∃ os' iA dA z,Late P N os os' as (fun i => psl.getD i 0) iA dA z ∧ Plan P N os' as (fun i => psl.getD i 0) := by
  simp only [okLate,List.any_eq_true,List.mem_range] at h
  obtain ⟨iA,_,h⟩ := h
  unfold lateB at h
  split at h
  · rename_i dA z hai
    simp only [Bool.and_eq_true,decide_eq_true_eq,List.all_eq_true,List.mem_range] at h
    obtain ⟨⟨⟨⟨⟨h1,h2⟩,h3⟩,h4⟩,h5⟩,h6⟩ := h
    have hmem : ∀ r,r ∈ afterOf (lateOps os as psl iA) iA ↔ r < os.size ∧ lateP as psl iA r = true := fun r => by
      rw [lateOps_after h2]; simp
    refine ⟨_,iA,dA,z,⟨by simp [lateOps],fun i hi => ?_,h2,fun r hr => (hmem r).2 (h3 r hr),fun i hi hA r hr => ?_,fun i o ai ho ha => ?_,hai,fun i hi hlt => ?_⟩,okDraw_plan h1⟩
    · simp only [lateOps]
      rw [Array.getElem?_modify]
      rw [if_neg (Ne.symm hi)]
    · have := h4 i hi
      simp only [Bool.or_eq_true,Bool.not_eq_true',List.all_eq_true,List.mem_range,decide_eq_false_iff_not] at this
      rcases this with h | h
      · have h' : (afterOf os i).contains iA = true := by simpa using hA
        rw [h'] at h; cases h
      · rcases h r ((hmem r).1 hr).1 with h | h
        · rw [((hmem r).1 hr).2] at h; cases h
        · simpa using h
    · have := h5 i (Array.getElem?_eq_some_iff.1 ho).1
      rw [ho,ha] at this
      exact this
    · have := h6 i hi
      simp only [Bool.or_eq_true,Bool.not_eq_true',decide_eq_false_iff_not] at this
      rcases this with h | h
      · exact absurd hlt h
      · simpa using h
  · cases h
end Go.Am
end
section
/- Drawn regions with effects that have no order: each of the orders is run,and all come to one end. -/
set_option linter.unusedSimpArgs false
set_option linter.unusedVariables false
namespace Go.Am
open Go.RowKit
def addE (os : Array Oper) (j i : Nat) : Array Oper := os.modify j fun o => { o with after := o.after.push ⟨i,.data⟩ }
theorem addE_size (os : Array Oper) (j i : Nat) : (addE os j i).size = os.size := by simp [addE]
theorem addE_ne {os : Array Oper} {j i k : Nat} (h : k ≠ j) : (addE os j i)[k]? = os[k]? := by
  unfold addE
  rw [Array.getElem?_modify,if_neg (Ne.symm h)]
theorem addE_after {os : Array Oper} {j i k r : Nat} (hj : j < os.size) : r ∈ afterOf (addE os j i) k ↔ (k = j ∧ r = i) ∨ r ∈ afterOf os k := by
  by_cases h : k = j
  · subst h
    have h2 : k < (addE os k i).size := by rw [addE_size]; exact hj
    simp only [afterOf,Array.getElem?_eq_getElem h2,Array.getElem?_eq_getElem hj]
    simp only [addE,Array.getElem_modify_self,Array.toList_push,List.filter_append,List.map_append,List.mem_append]
    have : (List.filter (fun e => Region.binds .any e) [(⟨i,.data⟩ : Edge)]) = [⟨i,.data⟩] := by
      simp [List.filter,show Region.binds .any (⟨i,.data⟩ : Edge) = true from rfl]
    rw [this]
    simp only [List.map_cons,List.map_nil,List.mem_singleton,true_and]
    exact or_comm
  · simp only [afterOf,addE_ne h]
    simp [h]
def lfOs : Array Oper → AC → Array Oper
  | os,.alt i j _ a _ => lfOs (addE os j i) a
  | os,_ => os
def lfAs : AC → List AI
  | .reg _ as _ _ => as
  | .alt _ _ _ a _ => lfAs a
  | _ => []
def lfPs : AC → List Nat
  | .reg o _ _ _ => o
  | .alt _ _ _ a _ => lfPs a
  | _ => []
def psF (l : List Nat) : Nat → Nat := fun i => l.getD i 0
mutual
def eqPV : PV → PV → Bool
  | .sc (.int k a),.sc (.int k' b) => decide (k = k') && decide (a = b)
  | .sc (.bool a),.sc (.bool b) => a == b
  | .sc (.string a),.sc (.string b) => decide (a = b)
  | .nils,.nils => true
  | .agg cs,.agg ds => eqPVs cs ds
  | _,_ => false
def eqPVs : List PV → List PV → Bool
  | [],[] => true
  | x :: xs,y :: ys => eqPV x y && eqPVs xs ys
  | _,_ => false
end
mutual
theorem eqPV_spec : ∀ {x y : PV},eqPV x y = true → x = y
  | .sc u,y,h => by
    cases y with
    | sc v => cases u <;> cases v <;> simp [eqPV] at h <;> first | (obtain ⟨rfl,rfl⟩ := h; rfl) | (subst h; rfl)
    | _ => cases u <;> simp [eqPV] at h
  | .nils,y,h => by cases y <;> first | rfl | (simp [eqPV] at h)
  | .agg cs,y,h => by
    cases y with
    | agg ds => simp only [eqPV] at h; rw [eqPVs_spec h]
    | _ => simp [eqPV] at h
  | .undef,y,h | .sl _ _ _,y,h | .own _ _,y,h | .ref _ _ _ _,y,h | .sub _ _ _,y,h | .iref _ _,y,h | .mp _,y,h | .clo _ _,y,h | .tup _,y,h | .bx _,y,h | .non,y,h => by simp [eqPV] at h
theorem eqPVs_spec : ∀ {xs ys : List PV},eqPVs xs ys = true → xs = ys
  | [],[],_ => rfl
  | [],_ :: _,h => by simp [eqPVs] at h
  | _ :: _,[],h => by simp [eqPVs] at h
  | x :: xs,y :: ys,h => by
    simp only [eqPVs,Bool.and_eq_true] at h
    rw [eqPV_spec h.1,eqPVs_spec h.2]
end
def eqP : Opd → Opd → Bool
  | .t a,.t b => a == b
  | .f a,.f b => a == b
  | .k x,.k y => eqPV x y
  | _,_ => false
theorem eqP_spec {x y : Opd} (h : eqP x y = true) : x = y := by
  unfold eqP at h
  split at h
  · obtain rfl := eq_of_beq h; rfl
  · obtain rfl := eq_of_beq h; rfl
  · rw [eqPV_spec h]
  · cases h
def eqPs : List Opd → List Opd → Bool
  | [],[] => true
  | x :: xs,y :: ys => eqP x y && eqPs xs ys
  | _,_ => false
theorem eqPs_spec : ∀ {xs ys : List Opd},eqPs xs ys = true → xs = ys
  | [],[],_ => rfl
  | [],_ :: _,h => by simp [eqPs] at h
  | _ :: _,[],h => by simp [eqPs] at h
  | x :: xs,y :: ys,h => by
    simp only [eqPs,Bool.and_eq_true] at h
    rw [eqP_spec h.1,eqPs_spec h.2]
def bkN : BK → Nat
  | .add => 0 | .sub => 1 | .mul => 2 | .quo => 3 | .rem => 4 | .eq => 5 | .ne => 6 | .lt => 7 | .le => 8 | .gt => 9 | .ge => 10 | .xor => 11
theorem bkN_inj {a b : BK} (h : bkN a = bkN b) : a = b := by cases a <;> cases b <;> first | rfl | (simp [bkN] at h)
def eqKd : K → K → Bool
  | .move,.move | .pick,.pick | .box,.box | .beq,.beq | .bne,.bne | .not,.not | .neg,.neg | .istr,.istr | .len,.len | .lens,.lens | .nck,.nck | .isnil,.isnil | .min2,.min2 | .max2,.max2 => true
  | .alloc z,.alloc z' => eqPVs z z'
  | .build z o,.build z' o' => eqPVs z z' && o == o'
  | .bslice k m,.bslice k' m' => k == k' && m == m'
  | .load k t,.load k' t' => k == k' && t == t'
  | .store k t,.store k' t' => k == k' && t == t'
  | .bin a,.bin b => bkN a == bkN b
  | .faddr a,.faddr b | .iaddr a,.iaddr b | .ext a,.ext b | .eslice a,.eslice b | .fsl a,.fsl b | .mkfunc a,.mkfunc b => a == b
  | .iarr a b,.iarr a' b' => a == a' && b == b'
  | .sstr a b,.sstr a' b' => a == a' && b == b'
  | .bstr,.bstr => true
  | .conv a,.conv b => decide (a = b)
  | .idx a b c,.idx a' b' c' => a == a' && b == b' && c == c'
  | .fld a b,.fld a' b' => a == a' && b == b'
  | .append a b,.append a' b' => a == a' && b == b'
  | .slice a b c,.slice a' b' c' => a == a' && b == b' && c == c'
  | .call a b,.call a' b' => a == a' && b == b'
  | .mkslice a z,.mkslice a' z' => a == a' && eqPV z z'
  | .lookup a z b,.lookup a' z' b' => a == a' && b == b' && eqPV z z'
  | .meq a,.meq b => a == b
  | .chk a,.chk b => eqKd a b
  | _,_ => false
theorem eqKd_spec : ∀ {x y : K},eqKd x y = true → x = y
  | .chk a,y,h => by
    cases y with
    | chk b => rw [eqKd_spec (x := a) (y := b) (by simpa [eqKd] using h)]
    | _ => simp [eqKd] at h
  | .move,y,h | .pick,y,h | .box,y,h | .beq,y,h | .bne,y,h | .not,y,h | .neg,y,h | .istr,y,h | .len,y,h | .lens,y,h | .nck,y,h | .isnil,y,h | .min2,y,h | .max2,y,h
  | .take,y,h | .copy,y,h | .bstr,y,h => by cases y <;> first | rfl | (simp [eqKd] at h)
  | .alloc z,y,h => by cases y <;> first | (simp only [eqKd] at h; rw [eqPVs_spec h]) | (simp [eqKd] at h)
  | .build z o,y,h => by cases y <;> first | (simp only [eqKd,Bool.and_eq_true,beq_iff_eq] at h; rw [eqPVs_spec h.1,h.2]) | (simp [eqKd] at h)
  | .bin a,y,h => by cases y <;> first | (simp only [eqKd,beq_iff_eq] at h; rw [bkN_inj h]) | (simp [eqKd] at h)
  | .mkslice a z,y,h => by cases y <;> first | (simp only [eqKd,Bool.and_eq_true,beq_iff_eq] at h; rw [h.1,eqPV_spec h.2]) | (simp [eqKd] at h)
  | .lookup a z b,y,h => by cases y <;> first | (simp only [eqKd,Bool.and_eq_true,beq_iff_eq] at h; rw [h.1.1,h.1.2,eqPV_spec h.2]) | (simp [eqKd] at h)
  | .idx a b c,y,h | .slice a b c,y,h => by cases y <;> first | (simp only [eqKd,Bool.and_eq_true,beq_iff_eq] at h; rw [h.1.1,h.1.2,h.2]) | (simp [eqKd] at h)
  | .iarr a b,y,h | .sstr a b,y,h | .fld a b,y,h | .append a b,y,h | .call a b,y,h | .bslice a b,y,h | .load a b,y,h | .store a b,y,h => by cases y <;> first | (simp only [eqKd,Bool.and_eq_true,beq_iff_eq] at h; rw [h.1,h.2]) | (simp [eqKd] at h)
  | .faddr a,y,h | .iaddr a,y,h | .ext a,y,h | .eslice a,y,h | .fsl a,y,h | .mkfunc a,y,h | .meq a,y,h => by cases y <;> first | (simp only [eqKd,beq_iff_eq] at h; rw [h]) | (simp [eqKd] at h)
  | .conv a,y,h => by cases y <;> first | (simp only [eqKd,decide_eq_true_eq] at h; rw [h]) | (simp [eqKd] at h)
  | .clear _ _,y,h | .mkmap _,y,h | .mapset _,y,h => by cases y <;> simp [eqKd] at h
def eqAI (a b : AI) : Bool := a.d == b.d && eqKd a.op b.op && eqPs a.xs b.xs && a.g == b.g
theorem eqAI_spec {a b : AI} (h : eqAI a b = true) : a = b := by
  simp only [eqAI,Bool.and_eq_true,beq_iff_eq] at h
  obtain ⟨⟨⟨h1,h2⟩,h3⟩,h4⟩ := h
  cases a; cases b
  simp only at h1 h2 h3 h4
  rw [h1,eqKd_spec h2,eqPs_spec h3,h4]
structure Alt (P : Program) (N : Nat) (OS os osA osB : Array Oper) (asA asB : List AI) (psA psB : Nat → Nat) (i j m : Nat) : Prop where
  sA : osA.size = OS.size
  sB : osB.size = OS.size
  li : i < OS.size
  lj : j < OS.size
  ne : i ≠ j
  dA : ∀ k,k < OS.size → dstOf osA k = dstOf OS k
  dB : ∀ k,k < OS.size → dstOf osB k = dstOf OS k
  up : ∀ k,k < OS.size → ∀ r ∈ afterOf os k,r ∈ afterOf osA k
  ij : i ∈ afterOf osA j
  aA : ∀ k,k < OS.size → psA k < m ∨ k = i → ∀ r ∈ afterOf osA k,r ∈ afterOf os k
  aB : ∀ k,k < OS.size → psA k < m ∨ k = j → ∀ r ∈ afterOf osB k,r ∈ afterOf os k
  cov : ∀ k,k < OS.size → psA k < m ∨ k = i ∨ k = j ∨ ∃ r ∈ afterOf os k,r < OS.size ∧ ¬ psA r < m
  nA : ¬ psA i < m ∧ ¬ psA j < m
  p1 : ∀ k,k < OS.size → psA k < m → psB k = psA k
  p2 : ∀ k,k < OS.size → psB k < m → psA k = psB k
  pre : ∀ p,p < m → asA[p]? = asB[p]?
  mA : m ≤ asA.length
  mB : m ≤ asB.length
  okA : ∀ k o ai,OS[k]? = some o → asA[psA k]? = some ai → okAI P N OS ai o = true
  okB : ∀ o ai,OS[j]? = some o → asB[psB j]? = some ai → okAI P N OS ai o = true
def preB : Nat → List AI → List AI → Bool
  | 0,_,_ => true
  | m + 1,a :: as,b :: bs => eqAI a b && preB m as bs
  | _,_,_ => false
theorem preB_spec : ∀ {m : Nat} {as bs : List AI},preB m as bs = true → m ≤ as.length ∧ m ≤ bs.length ∧ ∀ p,p < m → as[p]? = bs[p]?
  | 0,as,bs,_ => ⟨Nat.zero_le _,Nat.zero_le _,fun p h => by omega⟩
  | m + 1,[],_,h => by simp [preB] at h
  | m + 1,_ :: _,[],h => by simp [preB] at h
  | m + 1,a :: as,b :: bs,h => by
    simp only [preB,Bool.and_eq_true] at h
    obtain ⟨h1,h2,h3⟩ := preB_spec h.2
    refine ⟨by simp; omega,by simp; omega,fun p hp => ?_⟩
    cases p with
    | zero => simp [eqAI_spec h.1]
    | succ p => simpa using h3 p (by omega)
def altB (P : Program) (N : Nat) (OS os osA osB : Array Oper) (asA asB : List AI) (oA oB : List Nat) (i j m : Nat) : Bool :=
  osA.size == OS.size && osB.size == OS.size && decide (i < OS.size) && decide (j < OS.size) && (i != j) && preB m asA asB &&
  (List.range OS.size).all (fun k =>
    dstOf osA k == dstOf OS k && dstOf osB k == dstOf OS k &&
    (afterOf os k).all (fun r => (afterOf osA k).contains r) &&
    (!(decide (psF oA k < m) || k == i) || (afterOf osA k).all (fun r => (afterOf os k).contains r)) &&
    (!(decide (psF oA k < m) || k == j) || (afterOf osB k).all (fun r => (afterOf os k).contains r)) &&
    (decide (psF oA k < m) || k == i || k == j || (afterOf os k).any fun r => decide (r < OS.size) && !decide (psF oA r < m)) &&
    (!decide (psF oA k < m) || psF oB k == psF oA k) && (!decide (psF oB k < m) || psF oA k == psF oB k) &&
    (match OS[k]?,asA[psF oA k]? with | some o,some ai => okAI P N OS ai o | _,_ => false)) &&
  (afterOf osA j).contains i && !decide (psF oA i < m) && !decide (psF oA j < m) &&
  (match OS[j]?,asB[psF oB j]? with | some o,some ai => okAI P N OS ai o | _,_ => false)
theorem altB_spec {P : Program} {N : Nat} {OS os osA osB : Array Oper} {asA asB : List AI} {oA oB : List Nat} {i j m : Nat} (h : altB P N OS os osA osB asA asB oA oB i j m = true) : Alt P N OS os osA osB asA asB (psF oA) (psF oB) i j m := by
  simp only [altB,Bool.and_eq_true,List.all_eq_true,List.mem_range,beq_iff_eq,decide_eq_true_eq,bne_iff_ne,Bool.or_eq_true,Bool.not_eq_true',decide_eq_false_iff_not,List.any_eq_true,Bool.or_eq_false_iff,beq_eq_false_iff_ne,List.contains_iff_mem] at h
  obtain ⟨⟨⟨⟨⟨⟨⟨⟨⟨⟨h1,h2⟩,h3⟩,h4⟩,h5⟩,h6⟩,h7⟩,h8⟩,h9⟩,h10⟩,h11⟩ := h
  obtain ⟨q1,q2,q3⟩ := preB_spec h6
  refine ⟨h1,h2,h3,h4,h5,fun k hk => (h7 k hk).1.1.1.1.1.1.1.1,fun k hk => (h7 k hk).1.1.1.1.1.1.1.2,fun k hk => (h7 k hk).1.1.1.1.1.1.2,h8,fun k hk hc r hr => ?_,fun k hk hc r hr => ?_,fun k hk => ?_,⟨h9,h10⟩,fun k hk hc => ?_,fun k hk hc => ?_,q3,q1,q2,fun k o ai ho ha => ?_,fun o ai ho ha => ?_⟩
  · rcases (h7 k hk).1.1.1.1.1.2 with e | e
    · rcases hc with hc | hc
      · exact absurd hc e.1
      · exact absurd hc e.2
    · exact e r hr
  · rcases (h7 k hk).1.1.1.1.2 with e | e
    · rcases hc with hc | hc
      · exact absurd hc e.1
      · exact absurd hc e.2
    · exact e r hr
  · rcases (h7 k hk).1.1.1.2 with ((e | e) | e) | e
    · exact .inl e
    · exact .inr (.inl e)
    · exact .inr (.inr (.inl e))
    · exact .inr (.inr (.inr e))
  · rcases (h7 k hk).1.1.2 with e | e
    · exact absurd hc e
    · exact e
  · rcases (h7 k hk).1.2 with e | e
    · exact absurd hc e
    · exact e
  · have := (h7 k (Array.getElem?_eq_some_iff.1 ho).1).2
    rw [ho,ha] at this
    exact this
  · rw [ho,ha] at h11
    exact h11
def okTree (P : Program) (N : Nat) (OS : Array Oper) : Array Oper → AC → Bool
  | os,.reg ord as _ _ => okDraw P N os as ord && (List.range OS.size).all (fun k => (afterOf OS k).all (fun r => (afterOf os k).contains r) && dstOf os k == dstOf OS k && (match OS[k]?,as[psF ord k]? with | some o,some ai => okAI P N OS ai o | _,_ => false)) && os.size == OS.size
  | os,.alt i j m a b => okTree P N OS (addE os j i) a && okTree P N OS (addE os i j) b && altB P N OS os (lfOs (addE os j i) a) (lfOs (addE os i j) b) (lfAs a) (lfAs b) (lfPs a) (lfPs b) i j m
  | _,_ => false
theorem okTree_plan {P : Program} {N : Nat} {OS : Array Oper} : ∀ {t : AC} {os : Array Oper},okTree P N OS os t = true → Plan P N (lfOs os t) (lfAs t) (psF (lfPs t))
  | .reg ord as _ _,os,h => by
    simp only [okTree,Bool.and_eq_true] at h
    exact okDraw_plan h.1.1
  | .alt i j m a b,os,h => by
    simp only [okTree,Bool.and_eq_true] at h
    exact okTree_plan (t := a) h.1.1
  | .skip,_,h | .nest _ _ _ _ _ _ _,_,h | .seq _ _,_,h | .cond _ _ _,_,h | .block _ _,_,h | .loop _ _ _,_,h | .exit _,_,h | .ret,_,h => by simp [okTree] at h
end Go.Am
end
section
/- Every order of a drawn region with unordered effects comes to the one end of the machine's orders. -/
set_option linter.unusedSimpArgs false
set_option linter.unusedVariables false
namespace Go.Am
open Go.RowKit
section
variable {P : Program} {N n : Nat} {c0 : Ctx} {S0 : Sto} {w0 w : World} {OS os : Array Oper} {as : List AI} {ps : Nat → Nat} {call : CallF} {lp : List Nat → List Nat → AC → St → Option (EX × St)} {s s' : St} {a : Act} {st : Nat → St}
theorem all_listed (pl : Plan P N os as ps) (tr : Tr call as s s' st) {listed : Array Bool} {q : Nat} {a : Act} {w : World} (j : J os as ps listed q) (hall : ∀ i,i < os.size → listed.getD i false = true) (inv : Inv N c0 S0 w0 n (stL os s s' st listed q) a w) : Inv N c0 S0 w0 n s' a w := by
  refine inv.ext (fun t => ?_) ?_ ?_
  · simp only [stL,getR_regsL]
    by_cases h : ∃ i,listed.getD i false = true ∧ dstOf os i = some t
    · rw [if_pos h]
    · rw [if_neg h,← tr.e]
      exact regs_none pl tr (fun i hi => h ⟨i,hall i (dst_lt hi),hi⟩) (Nat.le_refl _)
  all_goals
    have := objs_between pl tr (p := q) (p' := as.length) j.le (Nat.le_refl _) (fun r h1 h2 => by
      cases he : isEff as r with
      | false => rfl
      | true =>
        obtain ⟨a',ha'⟩ : ∃ a',as[r]? = some a' := ⟨_,List.getElem?_eq_getElem h2⟩
        rcases pl.pos r a' ha' with ⟨h,_⟩ | ⟨e,oe,hoe,rfl⟩
        · simp [isEff,opK,ha',h] at he
        · have hes : e < os.size := (Array.getElem?_eq_some_iff.1 hoe).1
          have := (j.eff e hes he).1 (hall e hes)
          omega)
    rw [tr.e] at this
    first | exact this.1 | exact this.2
theorem some_ready (pl : Plan P N os as ps) (hsz : os.size = OS.size) (hup : ∀ k,k < OS.size → ∀ r ∈ afterOf OS k,r ∈ afterOf os k) {listed : Array Bool} (hls : listed.size = OS.size) {i : Nat} (hi : i < OS.size) (hu : listed.getD i false = false) : Region.ready .any OS listed ≠ [] := by
  obtain ⟨m,⟨hm1,hm2⟩,hm3⟩ := min_pos (ps := ps) (f := fun k => k < OS.size ∧ listed.getD k false = false) (ps i) ⟨i,⟨hi,hu⟩,Nat.le_refl _⟩
  have : m ∈ Region.ready .any OS listed := by
    rw [mem_ready]
    refine ⟨?_,OS[m],Array.getElem?_eq_getElem hm1,fun e he hb => ?_⟩
    · have hms : m < listed.size := by rw [hls]; exact hm1
      simp only [Array.getD,hms,dif_pos] at hm2 ⊢
      exact hm2
    · have hmem : e.on ∈ afterOf OS m := by
        simp only [afterOf,Array.getElem?_eq_getElem hm1]
        exact List.mem_map.2 ⟨e,List.mem_filter.2 ⟨Array.mem_toList_iff.2 he,hb⟩,rfl⟩
      obtain ⟨h1,h2⟩ := pl.top m e.on (by rw [hsz]; exact hm1) (hup m hm1 _ hmem)
      cases hl : listed.getD e.on false with
      | true => rfl
      | false => have := hm3 e.on ⟨by rw [← hsz]; exact h1,hl⟩; omega
  intro h
  rw [h] at this; cases this
theorem ready_un {listed : Array Bool} (hls : listed.size = OS.size) {i : Nat} (hi : i ∈ Region.ready .any OS listed) : ∃ o,OS[i]? = some o ∧ i < OS.size ∧ i < listed.size ∧ listed.getD i false = false ∧ ∀ r ∈ afterOf OS i,listed.getD r false = true := by
  obtain ⟨h0,o,ho,haft⟩ := mem_ready.1 hi
  have his : i < OS.size := (Array.getElem?_eq_some_iff.1 ho).1
  have hms : i < listed.size := by rw [hls]; exact his
  refine ⟨o,ho,his,hms, ?_, ?_⟩
  · simp only [Array.getD,hms,dif_pos] at h0 ⊢
    exact h0
  · intro r hr
    simp only [afterOf,ho] at hr
    obtain ⟨e,he,rfl⟩ := List.mem_map.1 hr
    obtain ⟨he1,he2⟩ := List.mem_filter.1 he
    exact haft e (Array.mem_toList_iff.1 he1) he2
theorem count_less {listed : Array Bool} {fuel i : Nat} (hi : i < OS.size) (hms : i < listed.size) (hun : listed.getD i false = false) (hc : (List.range OS.size).countP (fun i => !listed.getD i false) ≤ fuel + 1) : (List.range OS.size).countP (fun k => !(listed.setIfInBounds i true).getD k false) ≤ fuel := by
  have := countP_lt (p := fun k => !listed.getD k false) (p' := fun k => !(listed.setIfInBounds i true).getD k false) (l := List.range OS.size) (i := i) (fun x hx => by
    have hx' : (listed.setIfInBounds i true).getD x false = false := by simpa using hx
    have : ¬ listed.getD x false = true := fun h => by rw [(listed_set hms).2 (.inr h)] at hx'; cases hx'
    simpa using this) (List.mem_range.2 hi) (by simp only [hun]; rfl) (by simp only [(listed_set hms).2 (.inl rfl)]; rfl)
  omega
theorem leaf_any (hs : SoundC P call) (hlv : Lv n S0) (pl : Plan P N os as ps) (tr : Tr call as s s' st) (hsz : os.size = OS.size) (hup : ∀ k,k < OS.size → ∀ r ∈ afterOf OS k,r ∈ afterOf os k)
    (hok : ∀ k o ai,OS[k]? = some o → as[ps k]? = some ai → okAI P N OS ai o = true) {Q : Exit → Act → World → Prop} (hQ : ∀ a' w',Inv N c0 S0 w0 n s' a' w' → Q .normal a' w') :
    ∀ (fuel : Nat) (listed : Array Bool) (q : Nat) (a : Act) (w : World),(∀ k,k < OS.size → ∀ r ∈ afterOf os k,r ∈ afterOf OS k ∨ listed.getD r false = true) → J os as ps listed q → (List.range OS.size).countP (fun i => !listed.getD i false) ≤ fuel → Inv N c0 S0 w0 n (stL os s s' st listed q) a w → wpAny P .any OS Q fuel listed a w := by
  have done : ∀ {listed : Array Bool} {q : Nat} {a : Act} {w : World},J os as ps listed q → Inv N c0 S0 w0 n (stL os s s' st listed q) a w → (Region.ready .any OS listed = [] ∨ (List.range OS.size).countP (fun i => !listed.getD i false) = 0) → Q .normal a w := by
    intro listed q a w j inv h
    refine hQ _ _ (all_listed pl tr j (fun i hi => ?_) inv)
    cases hu : listed.getD i false with
    | true => rfl
    | false =>
      rcases h with h | h
      · exact absurd h (some_ready pl hsz hup (by rw [j.size,hsz]) (by rw [← hsz]; exact hi) hu)
      · have := List.countP_eq_zero.1 h i (List.mem_range.2 (by rw [← hsz]; exact hi))
        simp [hu] at this
  intro fuel
  induction fuel with
  | zero =>
    intro listed q a w hE j hc inv
    refine ⟨?_,done j inv (.inr (Nat.le_zero.1 hc))⟩
    refine List.eq_nil_iff_forall_not_mem.2 fun i hi => ?_
    obtain ⟨o,ho,his,hms,hun,haf⟩ := ready_un (by rw [j.size,hsz]) hi
    have := List.countP_eq_zero.1 (Nat.le_zero.1 hc) i (List.mem_range.2 his)
    simp [hun] at this
  | succ fuel ih =>
    intro listed q a w hE j hc inv
    refine ⟨fun h => done j inv (.inl h),fun i hi => ?_⟩
    obtain ⟨o,ho,his,hms,hun,haf⟩ := ready_un (by rw [j.size,hsz]) hi
    have his' : i < os.size := by rw [hsz]; exact his
    obtain ⟨o',ai,ho',hai,_,hck,_⟩ := op_at pl his'
    have haf' : ∀ r ∈ afterOf os i,listed.getD r false = true := fun r hr => (hE i his r hr).elim (haf r) id
    obtain ⟨s2,q',h1,h2,h3,h4,h5⟩ := one_more pl tr j his' hai hun haf'
    unfold wpOp
    simp only [ho]
    have hstep := ai_ok (Q := Q) (K := wpAny P .any OS Q fuel (listed.setIfInBounds i true)) hs hlv inv (hok i o ai ho hai) h1 (fun a' w' inv' => ih _ q' a' w' (fun k hk r hr => (hE k hk r hr).imp id fun h => (listed_set hms).2 (.inr h)) h2 (count_less his hms hun hc) (inv'.ext h3 h4 h5))
    split
    · rename_i hw; rw [if_pos hw] at hstep; exact .inl hstep
    · rename_i hw; rw [if_neg hw] at hstep; exact hstep
theorem same_pre {asA asB : List AI} {sA sB : St} {stA stB : Nat → St} {m : Nat} (trA : Tr call asA s sA stA) (trB : Tr call asB s sB stB) (hp : ∀ p,p < m → asA[p]? = asB[p]?) (hm : m ≤ asA.length) : ∀ p,p ≤ m → stA p = stB p
  | 0,_ => by rw [trA.z,trB.z]
  | p + 1,h => by
    have ih := same_pre trA trB hp hm p (by omega)
    obtain ⟨ai,hai⟩ : ∃ ai,asA[p]? = some ai := ⟨_,List.getElem?_eq_getElem (by omega)⟩
    have h1 := trA.go p ai hai
    have h2 := trB.go p ai (by rw [← hp p (by omega)]; exact hai)
    rw [ih,h2] at h1
    exact (Option.some.inj h1).symm
theorem Alt.front {osA osB : Array Oper} {asA asB : List AI} {psA psB : Nat → Nat} {i j m : Nat} (A : Alt P N OS os osA osB asA asB psA psB i j m) (pl : Plan P N osA asA psA) {listed : Array Bool} (hc : Clo osA listed) (hi : listed.getD i false = false) (hj : listed.getD j false = false) : ∀ k,k < OS.size → listed.getD k false = true → psA k < m := by
  intro k hk hl
  refine Classical.byContradiction fun hn => ?_
  obtain ⟨x,⟨hx1,hx2,hx3⟩,hmin⟩ := min_pos (ps := psA) (f := fun k => k < OS.size ∧ listed.getD k false = true ∧ ¬ psA k < m) (psA k) ⟨k,⟨hk,hl,hn⟩,Nat.le_refl _⟩
  rcases A.cov x hx1 with h | h | h | ⟨r,hr,hr1,hr2⟩
  · exact hx3 h
  · rw [h,hi] at hx2; cases hx2
  · rw [h,hj] at hx2; cases hx2
  · have hrA := A.up x hx1 r hr
    have hx1' : x < osA.size := by rw [A.sA]; exact hx1
    have hrl := hc x hx1' hx2 r hrA
    have := hmin r ⟨hr1,hrl,hr2⟩
    have := (pl.top x r hx1' hrA).2
    omega
theorem Alt.cross {osA osB : Array Oper} {asA asB : List AI} {psA psB : Nat → Nat} {i j m : Nat} (A : Alt P N OS os osA osB asA asB psA psB i j m) (plA : Plan P N osA asA psA) (plB : Plan P N osB asB psB) {sA sB : St} {stA stB : Nat → St} (trA : Tr call asA s sA stA) (trB : Tr call asB s sB stB)
    {listed : Array Bool} {q : Nat} (J1 : J osA asA psA listed q) (hi : listed.getD i false = false) (hj : listed.getD j false = false) (inv : Inv N c0 S0 w0 n (stL osA s sA stA listed q) a w) : ∃ q',J osB asB psB listed q' ∧ Inv N c0 S0 w0 n (stL osB s sB stB listed q') a w := by
  have hfr := A.front plA J1.clo hi hj
  have hin : ∀ k,listed.getD k false = true → k < OS.size := fun k hk => by
    rcases Nat.lt_or_ge k OS.size with h | h
    · exact h
    · have : ¬ k < listed.size := by rw [J1.size,A.sA]; omega
      simp [Array.getD,this] at hk
  have hmA := A.mA
  have hmB := A.mB
  -- up to the front's end
  obtain ⟨q0,hq0,hql,hobj⟩ : ∃ q0,q0 ≤ m ∧ (∀ e,e < OS.size → isEff asA (psA e) = true → (listed.getD e false = true ↔ psA e < q0)) ∧ (stA q0).l = (stA q).l ∧ (stA q0).o = (stA q).o := by
    by_cases hq : q ≤ m
    · exact ⟨q,hq,fun e he hee => J1.eff e (by rw [A.sA]; exact he) hee,rfl,rfl⟩
    · refine ⟨m,Nat.le_refl _,fun e he hee => ?_, ?_⟩
      · constructor
        · exact fun h => hfr e he h
        · exact fun h => (J1.eff e (by rw [A.sA]; exact he) hee).2 (by omega)
      · have := objs_between plA trA (p := m) (p' := q) (by omega) J1.le (fun r h1 h2 => by
          cases he : isEff asA r with
          | false => rfl
          | true =>
            have hle := J1.le
            obtain ⟨a',ha'⟩ : ∃ a',asA[r]? = some a' := ⟨_,List.getElem?_eq_getElem (by omega)⟩
            rcases plA.pos r a' ha' with ⟨h,_⟩ | ⟨e,oe,hoe,rfl⟩
            · simp [isEff,opK,ha',h] at he
            · have hes : e < osA.size := (Array.getElem?_eq_some_iff.1 hoe).1
              have hl := (J1.eff e hes he).2 h2
              have := hfr e (by rw [← A.sA]; exact hes) hl
              omega)
        exact ⟨this.1.symm,this.2.symm⟩
  have hst := same_pre trA trB A.pre hmA
  refine ⟨q0,⟨?_, ?_, ?_,by omega⟩, ?_⟩
  · rw [J1.size,A.sA,A.sB]
  · intro k hk hl r hr
    rw [A.sB] at hk
    exact J1.clo k (by rw [A.sA]; exact hk) hl r (A.up k hk r (A.aB k hk (.inl (hfr k hk hl)) r hr))
  · intro e he hee
    rw [A.sB] at he
    by_cases h : psA e < m
    · rw [A.p1 e he h]
      refine hql e he ?_
      rw [A.p1 e he h] at hee
      simp only [isEff,opK,A.pre _ h] at hee ⊢
      exact hee
    · constructor
      · exact fun hl => absurd (hfr e he hl) h
      · intro hlt
        have := A.p2 e he (by omega)
        omega
  · refine inv.ext (fun t => ?_) ?_ ?_
    · simp only [stL,getR_regsL]
      have e1 : (∃ k,listed.getD k false = true ∧ dstOf osB k = some t) ↔ ∃ k,listed.getD k false = true ∧ dstOf osA k = some t := by
        constructor
        · rintro ⟨k,h1,h2⟩
          exact ⟨k,h1,by rw [A.dA k (hin k h1),← A.dB k (hin k h1)]; exact h2⟩
        · rintro ⟨k,h1,h2⟩
          exact ⟨k,h1,by rw [A.dB k (hin k h1),← A.dA k (hin k h1)]; exact h2⟩
      by_cases h : ∃ k,listed.getD k false = true ∧ dstOf osA k = some t
      · rw [if_pos h,if_pos (e1.2 h)]
        obtain ⟨k,h1,h2⟩ := h
        have hk := hin k h1
        have hf := hfr k hk h1
        rw [← regs_done plA trA h2 hf hmA,← regs_done plB trB (i := k) (by rw [A.dB k hk,← A.dA k hk]; exact h2) (by rw [A.p1 k hk hf]; exact hf) hmB,hst m (Nat.le_refl _)]
      · rw [if_neg h,if_neg (fun h' => h (e1.1 h'))]
    · show (stB q0).l = (stA q).l
      rw [← hst q0 hq0,hobj.1]
    · show (stB q0).o = (stA q).o
      rw [← hst q0 hq0,hobj.2]
theorem leaf_steps : ∀ {t : AC} {os : Array Oper} {x : EX × St},okTree P N OS os t = true → run call lp t s = some x → ∃ s1,steps call s (lfAs t) = some s1
  | .reg _ as lv ob,os,x,hk,e => by
    simp only [run] at e
    split at e
    · rename_i s1 h1; exact ⟨s1,h1⟩
    · cases e
  | .alt i j m a b,os,x,hk,e => by
    simp only [okTree,Bool.and_eq_true] at hk
    simp only [run] at e
    split at e
    · rename_i x1 y1 h1 h2
      exact leaf_steps (t := a) hk.1.1 h1
    · cases e
  | .skip,_,_,h,_ | .nest _ _ _ _ _ _ _,_,_,h,_ | .seq _ _,_,_,h,_ | .cond _ _ _,_,_,h,_ | .block _ _,_,_,h,_ | .loop _ _ _,_,_,h,_ | .exit _,_,_,h,_ | .ret,_,_,h,_ => by simp [okTree] at h
theorem alt_both {i j m : Nat} {a b : AC} {x : EX × St} (e : run call lp (.alt i j m a b) s = some x) : run call lp a s = some x ∧ run call lp b s = some x := by
  simp only [run] at e
  split at e
  · rename_i x1 y1 h1 h2
    split at e
    · rename_i hxy
      simp only [Option.some.injEq] at e
      subst e; subst hxy
      exact ⟨h1,h2⟩
    · cases e
  · cases e
theorem tree_any (hs : SoundC P call) (hlv : Lv n S0) {Q : Exit → Act → World → Prop} {x : EX × St} (hQ : ∀ {lv ob : List Nat} {s1 : St} {a' : Act} {w' : World},fin (s1.keep lv ob) = some x → Inv N c0 S0 w0 n s1 a' w' → Q .normal a' w') :
    ∀ (t : AC) (os : Array Oper),okTree P N OS os t = true → run call lp t s = some x → (∀ k,k < OS.size → ∀ r ∈ afterOf OS k,r ∈ afterOf os k) →
    ∀ (s' : St) (st : Nat → St),Tr call (lfAs t) s s' st →
    ∀ (fuel : Nat) (listed : Array Bool) (q : Nat) (a : Act) (w : World),(∀ k,k < OS.size → ∀ r ∈ afterOf os k,r ∈ afterOf OS k ∨ listed.getD r false = true) → J (lfOs os t) (lfAs t) (psF (lfPs t)) listed q → (List.range OS.size).countP (fun i => !listed.getD i false) ≤ fuel →
      Inv N c0 S0 w0 n (stL (lfOs os t) s s' st listed q) a w → wpAny P .any OS Q fuel listed a w
  | .reg ord as lv ob,os,hk,e,hup,s',st,tr => by
    have pl := okTree_plan hk
    simp only [okTree,Bool.and_eq_true,List.all_eq_true,List.mem_range,List.contains_iff_mem,beq_iff_eq] at hk
    obtain ⟨⟨h1,h2⟩,h3⟩ := hk
    refine leaf_any hs hlv pl tr h3 hup (fun k o ai ho ha => ?_) (fun a' w' inv' => ?_)
    · have := (h2 k (Array.getElem?_eq_some_iff.1 ho).1).2
      rw [ho] at this
      rw [show as[psF ord k]? = some ai from ha] at this
      exact this
    · simp only [run] at e
      split at e
      · rename_i s1 hs1
        obtain ⟨st2,t1,t2,t3⟩ := trace hs1
        have := same_pre tr ⟨t1,t2,t3⟩ (m := as.length) (fun _ _ => rfl) (Nat.le_refl _) as.length (Nat.le_refl _)
        have h4 : s' = s1 := by rw [← tr.e,← t2]; exact this
        subst h4
        exact hQ e inv'
      · cases e
  | .alt i j m ta tb,os,hk,e,hup,sA,stA,trA => by
    have plA : Plan P N (lfOs (addE os j i) ta) (lfAs ta) (psF (lfPs ta)) := okTree_plan (t := .alt i j m ta tb) hk
    simp only [okTree,Bool.and_eq_true] at hk
    obtain ⟨⟨k1,k2⟩,k3⟩ := hk
    have A := altB_spec k3
    have plB := okTree_plan k2
    obtain ⟨e1,e2⟩ := alt_both e
    obtain ⟨sB,hsB⟩ := leaf_steps k2 e2
    obtain ⟨stB,b1,b2,b3⟩ := trace hsB
    have trB : Tr call (lfAs tb) s sB stB := ⟨b1,b2,b3⟩
    by_cases hos : j < os.size ∧ i < os.size
    case neg =>
      exfalso
      have h := A.ij
      have hj : j < (lfOs (addE os j i) ta).size := by rw [A.sA]; exact A.lj
      have hsz : ∀ (t : AC) (os : Array Oper),(lfOs os t).size = os.size := by
        intro t
        induction t with
        | alt i j m a b ih1 ih2 => intro os; simp only [lfOs]; rw [ih1,addE_size]
        | _ => intro os; rfl
      rw [hsz,addE_size] at hj
      have h2 := A.sA
      rw [hsz,addE_size] at h2
      exact hos ⟨hj,by rw [h2]; exact A.li⟩
    obtain ⟨hosj,hosi⟩ := hos
    have upA : ∀ k,k < OS.size → ∀ r ∈ afterOf OS k,r ∈ afterOf (addE os j i) k := fun k hk r hr => (addE_after hosj).2 (.inr (hup k hk r hr))
    have upB : ∀ k,k < OS.size → ∀ r ∈ afterOf OS k,r ∈ afterOf (addE os i j) k := fun k hk r hr => (addE_after hosi).2 (.inr (hup k hk r hr))
    have ihA := tree_any hs hlv hQ ta (addE os j i) k1 e1 upA sA stA trA
    have ihB := tree_any hs hlv hQ tb (addE os i j) k2 e2 upB sB stB trB
    have upAA : ∀ k,k < OS.size → ∀ r ∈ afterOf OS k,r ∈ afterOf (lfOs (addE os j i) ta) k := fun k hk r hr => A.up k hk r (hup k hk r hr)
    intro fuel
    induction fuel with
    | zero =>
      intro listed q a w hE j1 hc inv
      have hall : listed.getD i false = true := by
        cases hu : listed.getD i false with
        | true => rfl
        | false =>
          have := List.countP_eq_zero.1 (Nat.le_zero.1 hc) i (List.mem_range.2 A.li)
          simp [hu] at this
      exact ihA 0 listed q a w (fun k hk r hr => by
        rcases (addE_after hosj).1 hr with ⟨rfl,rfl⟩ | h
        · exact .inr hall
        · exact hE k hk r h) j1 hc inv
    | succ fuel ih =>
      intro listed q a w hE j1 hc inv
      cases hli : listed.getD i false with
      | true =>
        exact ihA (fuel + 1) listed q a w (fun k hk r hr => by
          rcases (addE_after hosj).1 hr with ⟨rfl,rfl⟩ | h
          · exact .inr hli
          · exact hE k hk r h) j1 hc inv
      | false =>
      have hsz : (lfOs (addE os j i) ta).size = OS.size := A.sA
      have hlj : listed.getD j false = false := by
        cases hu : listed.getD j false with
        | false => rfl
        | true =>
          have := j1.clo j (by show j < (lfOs (addE os j i) ta).size; rw [hsz]; exact A.lj) hu i A.ij
          rw [hli] at this; cases this
      have hls : listed.size = OS.size := by rw [j1.size]; exact hsz
      refine ⟨fun h => absurd h (some_ready plA hsz upAA hls A.li hli),fun k hk => ?_⟩
      obtain ⟨o,ho,hks,hms,hun,haf⟩ := ready_un hls hk
      have haf1 : ∀ r ∈ afterOf os k,listed.getD r false = true := fun r hr => (hE k hks r hr).elim (haf r) id
      have hfr := A.front plA j1.clo hli hlj
      have hcount := count_less hks hms hun hc
      have hE' : ∀ k',k' < OS.size → ∀ r ∈ afterOf os k',r ∈ afterOf OS k' ∨ (listed.setIfInBounds k true).getD r false = true := fun k' hk' r hr => (hE k' hk' r hr).imp id fun h => (listed_set hms).2 (.inr h)
      have fork : ∀ {b : Prop} [Decidable b] {x y z' : Prop},(if b then x else y) → if b then x ∨ z' else y := by
        intro b _ x y z' h
        split
        · rename_i hb; rw [if_pos hb] at h; exact .inl h
        · rename_i hb; rw [if_neg hb] at h; exact h
      unfold wpOp
      simp only [ho]
      by_cases hkj : k = j
      · subst hkj
        obtain ⟨q2,j2,inv2⟩ := A.cross plA plB trA trB j1 hli hlj inv
        have hks' : k < (lfOs (addE os i k) tb).size := by rw [A.sB]; exact hks
        obtain ⟨o',ai,ho',hai,_,hck,_⟩ := op_at plB hks'
        obtain ⟨s2,q',h1,h2,h3,h4,h5⟩ := one_more plB trB j2 hks' hai hun (fun r hr => haf1 r (A.aB k hks (.inr rfl) r hr))
        exact fork (ai_ok (Q := Q) (K := wpAny P .any OS Q fuel (listed.setIfInBounds k true)) hs hlv inv2 (A.okB o ai ho hai) h1 (fun a' w' inv' => ihB fuel _ q' a' w' (fun k' hk' r hr => by
          rcases (addE_after hosi).1 hr with ⟨rfl,rfl⟩ | h
          · exact .inr ((listed_set hms).2 (.inl rfl))
          · exact hE' k' hk' r h) h2 hcount (inv'.ext h3 h4 h5)))
      · have hki : psF (lfPs ta) k < m ∨ k = i := by
          rcases A.cov k hks with h | h | h | ⟨r,hr,hr1,hr2⟩
          · exact .inl h
          · exact .inr h
          · exact absurd h hkj
          · exact absurd (hfr r hr1 (haf1 r hr)) hr2
        have hks' : k < (lfOs (addE os j i) ta).size := by rw [hsz]; exact hks
        obtain ⟨o',ai,ho',hai,_,hck,_⟩ := op_at plA hks'
        obtain ⟨s2,q',h1,h2,h3,h4,h5⟩ := one_more plA trA j1 hks' hai hun (fun r hr => haf1 r (A.aA k hks hki r hr))
        refine fork (ai_ok (Q := Q) (K := wpAny P .any OS Q fuel (listed.setIfInBounds k true)) hs hlv inv (A.okA k o ai ho hai) h1 (fun a' w' inv' => ?_))
        exact ih (listed.setIfInBounds k true) q' a' w' hE' h2 hcount (inv'.ext h3 h4 h5)
  | .skip,_,h,_,_,_,_,_ | .nest _ _ _ _ _ _ _,_,h,_,_,_,_,_ | .seq _ _,_,h,_,_,_,_,_ | .cond _ _ _,_,h,_,_,_,_,_ | .block _ _,_,h,_,_,_,_,_ | .loop _ _ _,_,h,_,_,_,_,_ | .exit _,_,h,_,_,_,_,_ | .ret,_,h,_,_,_,_,_ => by simp [okTree] at h
theorem tree_ok (hs : SoundC P call) (hlv : Lv n S0) (hm : P.follows .mixedOrders = true) {t : AC} (hk : okTree P N os os t = true) {id : Nat} {Q : Exit → Act → World → Prop} {x : EX × St} (e : run call lp t s = some x) (inv : Inv N c0 S0 w0 n s a w) (hQ : ∀ {lv ob : List Nat} {s1 : St} {a' : Act} {w' : World},fin (s1.keep lv ob) = some x → Inv N c0 S0 w0 n s1 a' w' → Q .normal a' w') :
    (Code.region id os true).wp P Q a w := by
  obtain ⟨s',hs'⟩ := leaf_steps hk e
  obtain ⟨st,t1,t2,t3⟩ := trace hs'
  have tr : Tr call (lfAs t) s s' st := ⟨t1,t2,t3⟩
  have hsz : ∀ (t : AC) (os : Array Oper),(lfOs os t).size = os.size := by
    intro t
    induction t with
    | alt i j m a b ih1 ih2 => intro os; simp only [lfOs]; rw [ih1,addE_size]
    | _ => intro os; rfl
  refine wp_region_any hm (tree_any hs hlv hQ t os hk e (fun _ _ _ h => h) s' st tr _ _ 0 _ _ (fun _ _ _ h => .inl h) ⟨by simp [hsz], ?_, ?_,Nat.zero_le _⟩ ?_ ?_)
  · intro i hi h
    rw [hsz] at hi
    simp [hi] at h
  · intro e he _
    rw [hsz] at he
    simp [he]
  · exact Nat.le_trans List.countP_le_length (by simp)
  · have hinv : Inv N c0 S0 w0 n s a { w with drawn := w.drawn + 1 } := by
      obtain ⟨c,fp,sim,ha,hg,hd,hn⟩ := inv
      exact ⟨c,fp,⟨sim.rg,sim.st,sim.df,sim.sz⟩,ha,hg.trans ⟨rfl,rfl,rfl,Nat.le_refl _,fun _ _ => rfl,Nat.le_succ _⟩,hd,hn⟩
    refine hinv.ext (fun t => ?_) (by simp [stL,tr.z]) (by simp [stL,tr.z])
    simp only [stL,getR_regsL]
    rw [if_neg]
    rintro ⟨i,h,hi⟩
    have := dst_lt hi
    rw [hsz] at this
    simp [this] at h
end
end Go.Am
end
section
/- The machine is sound. -/
set_option linter.unusedSimpArgs false
set_option linter.unusedVariables false
namespace Go.Am
open Go.RowKit
def okC (P : Program) (N : Nat) : AC → Code → Bool
  | .skip,.skip => true
  | .reg ord as _ _,.region _ os draw => if draw then okDraw P N os as ord || okLate P N os as ord else okAIs P N os as os.toList
  | .seq a b,.seq x y => okC P N a x && okC P N b y
  | .cond c a b,.cond c' x y => opdOK c c' && okC P N a x && okC P N b y
  | .block n a,.block n' x => n == n' && okC P N a x
  | .loop _ _ a,.loop x => okC P N a x
  | .exit n,.exit n' => n == n'
  | .ret,.ret => true
  | .alt i j m a b,.region _ os draw => draw && okTree P N os os (.alt i j m a b)
  | _,_ => false
def LW (P : Program) (c : Code) (Q : Exit → Act → World → Prop) (a : Act) (w : World) : Prop := ∀ (b : Frame) (k : List Item) (cs : List Frame),
  ∃ e a' w',Q e a' w' ∧ Arrives P (lone (b.at a (.code c :: .inLoop c :: k)) cs w) b k cs e a' w'
section
variable {P : Program}
theorem LW.wp {c : Code} {Q : Exit → Act → World → Prop} {a : Act} {w : World} (h : LW P c Q a w) : (Code.loop c).wp P Q a w := by
  intro b k cs
  obtain ⟨e,a',w',hq,harr⟩ := h b k cs
  exact ⟨e,a',w',hq,.of_steps (.one step_loop) harr⟩
theorem LW.round {c : Code} {Q : Exit → Act → World → Prop} {a : Act} {w : World} (h : c.wp P (Exit.then (LW P c Q) Q) a w) : LW P c Q a w := by
  intro b k cs
  obtain ⟨e,a₁,w₁,hq,harr⟩ := h b (.inLoop c :: k) cs
  cases e with
  | normal =>
    obtain ⟨e₂,a₂,w₂,hq₂,harr₂⟩ := hq b k cs
    exact ⟨e₂,a₂,w₂,hq₂,.of_steps (Steps.trans harr (.one step_inLoop)) harr₂⟩
  | exit id => exact ⟨_,a₁,w₁,hq,.pass (x := .inLoop c) rfl (fun _ _ => .inl (by simp)) harr⟩
  | goto l => exact ⟨_,a₁,w₁,hq,.pass (x := .inLoop c) rfl (fun _ _ => .inl (by simp)) harr⟩
  | ret => exact ⟨_,a₁,w₁,hq,.pass (x := .inLoop c) rfl (fun _ _ => .inl (by simp)) harr⟩
  | panic ch => exact ⟨_,a₁,w₁,hq,.pass (x := .inLoop c) rfl (fun _ _ => .inl (by simp)) harr⟩
  | outgrown => exact ⟨_,a₁,w₁,hq,.pass (x := .inLoop c) rfl (fun _ _ => .inl (by simp)) harr⟩
def exOf : EX → Exit
  | .normal => .normal
  | .exit n => .exit n
  | .ret => .ret
def Post (N : Nat) (c0 : Ctx) (S0 : Sto) (w0 : World) (n : Nat) (ex : EX) (s' : St) : Exit → Act → World → Prop := fun e a w => e = exOf ex ∧ Inv N c0 S0 w0 n s' a w
def SoundL (P : Program) (loopF : List Nat → List Nat → AC → St → Option (EX × St)) : Prop := ∀ lv ob ac s ex s',loopF lv ob ac s = some (ex,s') → ∀ (N : Nat) (c0 : Ctx) (S0 : Sto) (w0 : World) (n : Nat) (code : Code) (a : Act) (w : World),
  okC P N ac code = true → Lv n S0 → Inv N c0 S0 w0 n s a w → LW P code (Post N c0 S0 w0 n ex s') a w
section
variable {N n : Nat} {c0 : Ctx} {S0 : Sto} {w0 : World} {call : CallF} {loopF : List Nat → List Nat → AC → St → Option (EX × St)}
theorem run_ok (hm : P.follows .mixedOrders = true) (hs : SoundC P call) (hl : SoundL P loopF) (hlv : Lv n S0) : ∀ (ac : AC) (code : Code) (s s' : St) (ex : EX) (a : Act) (w : World),okC P N ac code = true → run call loopF ac s = some (ex,s') → Inv N c0 S0 w0 n s a w →
    code.wp P (Post N c0 S0 w0 n ex s') a w
  | .skip,code,s,s',ex,a,w,hk,e,inv => by
    cases code <;> simp only [okC] at hk <;> first | (cases hk; done) | skip
    simp only [run,Option.some.injEq,Prod.mk.injEq] at e
    obtain ⟨rfl,rfl⟩ := e
    exact wp_skip ⟨rfl,inv⟩
  | .reg ord as lv ob,code,s,s',ex,a,w,hk,e,inv => by
    cases code <;> simp only [okC] at hk <;> first | (cases hk; done) | skip
    rename_i id os draw
    simp only [run] at e
    split at e
    · rename_i s1 h1
      cases draw with
      | true =>
        simp only [if_true,Bool.or_eq_true] at hk
        rcases hk with hk | hk
        · refine draw_ok hs hlv hm (okDraw_plan hk) h1 inv fun a' w' inv' => ?_
          obtain ⟨rfl,h⟩ := keep_ok hlv inv' e
          exact ⟨rfl,h⟩
        · obtain ⟨os',iA,dA,z,L,pl⟩ := okLate_spec hk
          refine late_ok hs hlv hm L pl h1 inv fun a' w' inv' => ?_
          obtain ⟨rfl,h⟩ := keep_ok hlv inv' e
          exact ⟨rfl,h⟩
      | false =>
        simp only [Bool.false_eq_true,if_false] at hk
        refine wp_region_list (list_ok hs hlv hk h1 inv fun a' w' inv' => ?_)
        obtain ⟨rfl,h⟩ := keep_ok hlv inv' e
        exact ⟨rfl,h⟩
    · cases e
  | .nest pre ld mids cl post lv ob,code,s,s',ex,a,w,hk,e,inv => by
    cases code <;> simp only [okC] at hk <;> cases hk
  | .seq x y,code,s,s',ex,a,w,hk,e,inv => by
    cases code <;> simp only [okC] at hk <;> first | (cases hk; done) | skip
    rename_i cx cy
    simp only [Bool.and_eq_true] at hk
    simp only [run] at e
    cases h1 : run call loopF x s with
    | none => rw [h1] at e; cases e
    | some p =>
      obtain ⟨ex1,s1⟩ := p
      have hx := run_ok hm hs hl hlv x cx s s1 ex1 a w hk.1 h1 inv
      refine wp_seq (wp_mono hx fun e' a' w' hq => ?_)
      obtain ⟨rfl,inv'⟩ := hq
      cases ex1 with
      | normal =>
        rw [h1] at e
        exact run_ok hm hs hl hlv y cy s1 s' ex a' w' hk.2 e inv'
      | exit m =>
        rw [h1] at e
        simp only [Option.some.injEq,Prod.mk.injEq] at e
        obtain ⟨rfl,rfl⟩ := e
        exact ⟨rfl,inv'⟩
      | ret =>
        rw [h1] at e
        simp only [Option.some.injEq,Prod.mk.injEq] at e
        obtain ⟨rfl,rfl⟩ := e
        exact ⟨rfl,inv'⟩
  | .cond c x y,code,s,s',ex,a,w,hk,e,inv => by
    cases code <;> simp only [okC] at hk <;> first | (cases hk; done) | skip
    rename_i cc cx cy
    simp only [Bool.and_eq_true] at hk
    simp only [run] at e
    split at e
    · rename_i t ht
      have hv : a.eval cc = .bool t := by
        obtain ⟨c,fp,sim,_⟩ := inv
        have := opd_RVal sim hk.1.1
        rw [ht] at this
        exact sc_eq this
      refine wp_cond hv ?_
      cases t with
      | true =>
        simp only [if_true] at e
        simp only [if_true]
        exact run_ok hm hs hl hlv x cx s s' ex a w hk.1.2 e inv
      | false =>
        simp only [Bool.false_eq_true,if_false] at e
        simp only [Bool.false_eq_true,if_false]
        exact run_ok hm hs hl hlv y cy s s' ex a w hk.2 e inv
    · cases e
  | .block m x,code,s,s',ex,a,w,hk,e,inv => by
    cases code <;> simp only [okC] at hk <;> first | (cases hk; done) | skip
    rename_i id cx
    simp only [Bool.and_eq_true] at hk
    obtain rfl := eq_of_beq hk.1
    simp only [run] at e
    cases h1 : run call loopF x s with
    | none => rw [h1] at e; cases e
    | some p =>
      obtain ⟨ex1,s1⟩ := p
      have hx := run_ok hm hs hl hlv x cx s s1 ex1 a w hk.2 h1 inv
      refine wp_block (wp_mono hx fun e' a' w' hq => ?_)
      obtain ⟨rfl,inv'⟩ := hq
      rw [h1] at e
      cases ex1 with
      | normal =>
        simp only [Option.some.injEq,Prod.mk.injEq] at e
        obtain ⟨rfl,rfl⟩ := e
        exact ⟨rfl,inv'⟩
      | exit q =>
        simp only at e
        simp only [exOf,Exit.inBlock]
        split at e
        · rename_i hq
          simp only [Option.some.injEq,Prod.mk.injEq] at e
          obtain ⟨rfl,rfl⟩ := e
          rw [if_pos hq]
          exact ⟨rfl,inv'⟩
        · rename_i hq
          simp only [Option.some.injEq,Prod.mk.injEq] at e
          obtain ⟨rfl,rfl⟩ := e
          rw [if_neg hq]
          exact ⟨rfl,inv'⟩
      | ret =>
        simp only [Option.some.injEq,Prod.mk.injEq] at e
        obtain ⟨rfl,rfl⟩ := e
        exact ⟨rfl,inv'⟩
  | .loop lv ob x,code,s,s',ex,a,w,hk,e,inv => by
    cases code <;> simp only [okC] at hk <;> first | (cases hk; done) | skip
    rename_i cx
    simp only [run] at e
    exact (hl lv ob x s ex s' e N c0 S0 w0 n cx a w hk hlv inv).wp
  | .exit m,code,s,s',ex,a,w,hk,e,inv => by
    cases code <;> simp only [okC] at hk <;> first | (cases hk; done) | skip
    obtain rfl := eq_of_beq hk
    simp only [run,Option.some.injEq,Prod.mk.injEq] at e
    obtain ⟨rfl,rfl⟩ := e
    exact wp_exit ⟨rfl,inv⟩
  | .ret,code,s,s',ex,a,w,hk,e,inv => by
    cases code <;> simp only [okC] at hk <;> first | (cases hk; done) | skip
    simp only [run,Option.some.injEq,Prod.mk.injEq] at e
    obtain ⟨rfl,rfl⟩ := e
    exact wp_ret ⟨rfl,inv⟩
  | .alt i j m x y,code,s,s',ex,a,w,hk,e,inv => by
    cases code <;> simp only [okC] at hk <;> first | (cases hk; done) | skip
    rename_i id os draw
    simp only [Bool.and_eq_true] at hk
    obtain ⟨rfl,hk⟩ := hk
    refine tree_ok hs hlv hm hk e inv fun {lv ob s1 a' w'} hf inv' => ?_
    obtain ⟨rfl,h⟩ := keep_ok hlv inv' hf
    exact ⟨rfl,h⟩
end
end
end Go.Am
end
section
/- What the machine computes,the program does. -/
set_option linter.unusedSimpArgs false
set_option linter.unusedVariables false
namespace Go.Am
open Go.RowKit
def okRes (P : Program) : List RV → List ResultVar → Bool
  | [],[] => true
  | .tmp t :: r,.tmp t' :: r' => t == t' && okRes P r r'
  | .cell t k :: r,.cell t' ty :: r' => t == t' && kindOf P ty == some k && okRes P r r'
  | _,_ => false
def okF (P : Program) (f : Nat) (af : AF) : Bool :=
  match P.funcs[f]? with
  | some fn => match fn.body with
    | some c => okC P fn.ntmps af.body c && okRes P af.res fn.results.toList && fn.name != "runtime.NumGoroutine"
    | none => false
  | none => false
structure ProgOK (P : Program) (G : Prog) : Prop where
  mixed : P.follows .mixedOrders = true
  code : ∀ f af,G.prim f = none → G.code f = some af → okF P f af = true
  prim : ∀ f p,G.prim f = some p → ∀ args o r o',p args o = some (r,o') → Good P f args o r o'
section
variable {P : Program} {G : Prog}
def resOp (P : Program) (tmps : Array Value) : ResultVar → Sem Value
  | .tmp t => pure (tmps.getD t undef)
  | .cell a t => do loadVar t (← asAddr (tmps.getD a undef))
theorem resVs_ok {N : Nat} {c : Ctx} {fp : Id → List Nat} {s : St} {a : Act} {w : World} (sim : Sim N c fp s a w) : ∀ {res : List RV} {rs : List ResultVar} {vs : List PV},okRes P res rs = true → resVs s res = some vs →
    ∃ vals,(rs.mapM (resOp P a.tmps)).run P w = .ok vals w ∧ RV1s c s.get (hp w) vs vals ∧ ∀ x ∈ vs,∀ ps,x ≠ .tup ps
  | [],rs,vs,hk,e => by
    cases rs with
    | cons _ _ => simp [okRes] at hk
    | nil =>
      simp only [resVs,Option.some.injEq] at e
      subst e
      exact ⟨[],by simp,rfl,fun x hx => by cases hx⟩
  | x :: res,rs,vs,hk,e => by
    cases rs with
    | nil => cases x <;> simp [okRes] at hk
    | cons y rs =>
      simp only [resVs] at e
      split at e
      · rename_i v vs' h1 h2
        simp only [Option.some.injEq] at e
        subst e
        have key : okRes P res rs = true ∧ ∃ u,(resOp P a.tmps y).run P w = .ok u w ∧ RV1 c s.get (hp w) v u ∧ ∀ ps,v ≠ .tup ps := by
          cases x with
          | tmp t =>
            cases y with
            | cell _ _ => simp [okRes] at hk
            | tmp t' =>
              simp only [okRes,Bool.and_eq_true] at hk
              obtain rfl := eq_of_beq hk.1
              refine ⟨hk.2,a.tmps.getD t undef,by simp [resOp], ?_⟩
              have hr := sim.rg t
              simp only [resV] at h1
              split at h1
              · cases h1
              · rename_i hnt
                simp only [Option.some.injEq] at h1
                subst h1
                refine ⟨?_,hnt⟩
                cases hg : getR s.r t with
                | tup ps => exact absurd hg (hnt ps)
                | _ => rw [hg] at hr; exact hr
          | cell t k =>
            cases y with
            | tmp _ => simp [okRes] at hk
            | cell t' ty =>
              simp only [okRes,Bool.and_eq_true] at hk
              obtain rfl := eq_of_beq hk.1.1
              have hkind := eq_of_beq hk.1.2
              refine ⟨hk.2, ?_⟩
              have hr := sim.rg t
              simp only [resV] at h1
              split at h1
              · rename_i id m i j hg
                rw [hg] at hr
                split at h1
                · rename_i ob hob
                  split at h1
                  · rename_i hbox
                    split at h1
                    · rename_i cs hcs
                      obtain ⟨o,us,f,g1,g2,g3,g4,g5⟩ := elem_at sim.st hob hcs
                      have hf := g5 hbox
                      subst hf
                      have hp := ptr_eq g4 hr
                      obtain ⟨u,hu,hru⟩ := load_cells (P := P) hkind g1 g2 g3 h1
                      have hnt : ∀ ps,v ≠ .tup ps := by
                        rintro ps rfl
                        cases k with
                        | none =>
                          simp only [takeC] at h1
                          have := List.all_eq_true.1 g1 _ (List.mem_of_getElem? h1)
                          simp [cellP] at this
                        | some k =>
                          simp only [takeC] at h1
                          split at h1
                          · simp at h1
                          · cases h1
                      refine ⟨u,by simp only [resOp,hp]; simp [asAddr,hu], ?_,hnt⟩
                      cases v with
                      | tup ps => exact absurd rfl (hnt ps)
                      | _ => exact hru
                    · cases h1
                  · cases h1
                · cases h1
              · cases h1
        obtain ⟨hk2,u,hu,hr,hnt⟩ := key
        obtain ⟨vals,h3,h4,h5⟩ := resVs_ok sim hk2 h2
        refine ⟨u :: vals,by simp [List.mapM_cons,hu,h3],⟨u,vals,rfl,hr,h4⟩,fun x hx => ?_⟩
        rcases List.mem_cons.1 hx with rfl | hx
        · exact hnt
        · exact h5 x hx
      · cases e
theorem run_results {fn : Func} {a : Act} {w : World} {vals : List Value} (h : (fn.results.toList.mapM (resOp P a.tmps)).run P w = .ok vals w) : (results fn a.tmps).run P w = .ok (single' vals) w := by
  have h1 : results fn a.tmps = (do let vs ← fn.results.mapM (resOp P a.tmps); pure (if h : vs.size = 1 then vs[0] else .tuple vs) : Sem Value) := by
    unfold results
    congr 1
  rw [h1,Array.mapM_eq_mapM_toList]
  simp only [Sem.run_bind,Sem.run_map,h,Result.andThen_ok,Sem.run_pure]
  cases vals with
  | nil => simp [single',h]
  | cons v l =>
    cases l with
    | nil => simp [single',h]
    | cons u l => simp [single',h]
theorem restrict_ok {c : Ctx} {S : Sto} {w : World} {fp : Id → List Nat} {m : Nat} (ok : StOK c S (hp w) fp) : StOK c (hideS S m) (hp w) fp := by
  refine ok.less (fun id ob h => (hideS_some h).2) (fun id ob h => ?_)
  obtain ⟨h1,h2⟩ := hideS_some h
  refine RO.vis (c := c) (S := S) (fun _ _ h => h) (fun i hi => ⟨?_,rfl⟩) (fun _ _ => rfl) (ok.ob id ob h2)
  unfold hideS
  rw [if_pos (by omega)]
theorem getR_pars : ∀ (xs : List PV) (q t : Nat),getR (pars q xs) t = if q ≤ t then (xs[t - q]?).getD .undef else .undef
  | [],q,t => by simp [pars,getR]
  | x :: xs,q,t => by
    simp only [pars,getR]
    by_cases h : q = t
    · subst h; simp
    · simp only [h,if_false]
      rw [getR_pars xs (q + 1) t]
      by_cases h2 : q ≤ t
      · have h3 : q + 1 ≤ t := by omega
        have h4 : t - q = (t - (q + 1)) + 1 := by omega
        rw [if_pos h3,if_pos h2,h4,List.getElem?_cons_succ]
      · rw [if_neg h2,if_neg (by omega)]
theorem RVals_get {c : Ctx} {S : Sto} {w : World} : ∀ {xs : List PV} {vs : List Value},RVals c S (hp w) xs vs → ∀ t : Nat,RVal c S (hp w) ((xs[t]?).getD .undef) ((vs[t]?).getD undef)
  | [],_,r,t => by simp [RVal,RV1]
  | x :: xs,_,⟨v,ws,rfl,r1,r2⟩,0 => by simpa using r1
  | x :: xs,_,⟨v,ws,rfl,r1,r2⟩,t + 1 => by simpa using RVals_get r2 t
theorem entry {c : Ctx} {o : Stack} {w : World} {fp : Id → List Nat} {args : List PV} {vals : List Value} {N : Nat} (ok : StOK c (gt o) (hp w) fp) (r : RVals c (gt o) (hp w) args vals) :
    Inv N c (gt o) w o.length ⟨pars 0 args,[],o⟩ { tmps := vals.toArray ++ Array.replicate (N - vals.toArray.size) undef,defers := [] } w := by
  have hget : (⟨pars 0 args,[],o⟩ : St).get = gt o := rfl
  refine ⟨c,fp,⟨fun t => ?_,by rw [hget]; exact ok,rfl,by simp; omega⟩,by rw [hget]; exact Adv.refl _ _,Grew.refl _,fun id ob h => .inr ⟨ob,by rw [hget] at h; exact h⟩,rfl⟩
  rw [hget]
  simp only [getR_pars,Nat.zero_le,if_true,Nat.sub_zero]
  have hr := RVals_get r t
  have hv : (vals.toArray ++ Array.replicate (N - vals.toArray.size) undef).getD t undef = (vals[t]?).getD undef := by
    rw [Array.getD_eq_getD_getElem?]
    by_cases h : t < vals.length
    · rw [Array.getElem?_append_left (by simpa using h)]
      simp
    · have h1 : vals[t]? = none := List.getElem?_eq_none (by omega)
      rw [h1,Array.getElem?_append_right (by simpa using h)]
      rw [Array.getElem?_replicate]
      split <;> rfl
  rw [hv]; exact hr
theorem body_ok (pg : ProgOK P G) {call : CallF} {loopF : List Nat → List Nat → AC → St → Option (EX × St)} (hs : SoundC P call) (hl : SoundL P loopF) : SoundC P (body1 G call loopF) := by
  intro f args o r o' e
  unfold body1 at e
  split at e
  · rename_i p hp
    exact pg.prim f p hp args o r o' e
  · rename_i hp
    split at e
    · cases e
    · rename_i af haf
      have hk := pg.code f af hp haf
      unfold okF at hk
      split at hk
      · rename_i fn hfn
        split at hk
        · rename_i code hcode
          simp only [Bool.and_eq_true,bne_iff_ne] at hk
          obtain ⟨⟨hk1,hk2⟩,hk3⟩ := hk
          refine ⟨⟨fn,hfn,by rw [hcode]; rfl,hk3⟩,fun c fp w vals ok hr => ?_⟩
          refine calls_of_wp hfn hcode ?_
          have hinv := entry (N := fn.ntmps) ok hr
          have fin : ∀ {s' : St} {a' : Act} {w' : World},Inv fn.ntmps c (gt o) w o.length s' a' w' → finish af.res s' = some (r,o') →
              a'.defers = [] ∧ ∃ v,(results fn a'.tmps).run P w' = .ok v w' ∧ (Shape o o' ∧ Did c (gt o) w (gt o') r (.returned v) w') := by
            intro s' a' w' inv hf
            obtain ⟨c',fp',sim,ha,hg,hdom,hn⟩ := inv
            unfold finish at hf
            split at hf
            · cases hf
            · rename_i vs hvs
              split at hf
              · cases hf
              · rename_i y ids hex
                split at hf
                · rename_i hnd
                  simp only [Option.some.injEq,Prod.mk.injEq] at hf
                  obtain ⟨rfl,rfl⟩ := hf
                  obtain ⟨vals',h1,h2,h3⟩ := resVs_ok sim hk2 hvs
                  have hlv' : ∀ i ob,s'.get i = some ob → i.1 ≤ s'.o.length := fun i ob h => get_lvl h
                  obtain ⟨f',h4,h5⟩ := finish_ok sim.st hlv' h2 h3 hex hnd
                  have hgt := gt_get s'
                  rw [← hgt] at h4 h5
                  refine ⟨sim.df,single' vals',run_results h1,⟨hn,fun id ob h => ?_⟩,single' vals',c',fp',f',rfl,hg,by rw [hgt]; exact restrict_ok sim.st,⟨ha.F,ha.X,fun id ob h => ?_⟩,h5,h4⟩
                  · rw [hgt] at h
                    obtain ⟨h6,h7⟩ := hideS_some h
                    rcases hdom id ob h7 with h8 | h8
                    · omega
                    · exact h8
                  · obtain ⟨ob',h6,h7⟩ := ha.st id ob h
                    refine ⟨ob', ?_,h7⟩
                    have := gt_lv o id ob h
                    rw [hgt]
                    simp only [hideS]
                    rw [if_pos (by omega)]
                    exact h6
                · cases hf
          cases hrun : run call loopF af.body ⟨pars 0 args,[],o⟩ with
          | none => rw [hrun] at e; cases e
          | some p =>
            obtain ⟨ex,s'⟩ := p
            rw [hrun] at e
            have hwp := run_ok pg.mixed hs hl (gt_lv o) af.body code _ s' ex _ w hk1 hrun hinv
            refine wp_mono hwp fun e' a' w' hq => ?_
            obtain ⟨rfl,inv'⟩ := hq
            cases ex with
            | normal => exact fin inv' e
            | ret => exact fin inv' e
            | exit m => cases e
        · cases hk
      · cases hk
theorem loop_ok (hm : P.follows .mixedOrders = true) {call : CallF} {loopF : List Nat → List Nat → AC → St → Option (EX × St)} (hs : SoundC P call) (hl : SoundL P loopF) : SoundL P (loop1 call loopF) := by
  intro lv ob ac s ex s' e N c0 S0 w0 n code a w hk hlv inv
  unfold loop1 at e
  split at e
  · rename_i ex0 s0 h0
    obtain ⟨rfl,inv0⟩ := keep_ok hlv inv h0
    cases hrun : run call loopF ac s0 with
    | none => rw [hrun] at e; cases e
    | some p =>
      obtain ⟨ex1,s1⟩ := p
      rw [hrun] at e
      refine LW.round (wp_mono (run_ok hm hs hl hlv ac code s0 s1 ex1 a w hk hrun inv0) fun e' a' w' hq => ?_)
      obtain ⟨rfl,inv1⟩ := hq
      cases ex1 with
      | normal => exact hl lv ob ac s1 ex s' e N c0 S0 w0 n code a' w' hk hlv inv1
      | exit m =>
        simp only [Option.some.injEq,Prod.mk.injEq] at e
        obtain ⟨rfl,rfl⟩ := e
        exact ⟨rfl,inv1⟩
      | ret =>
        simp only [Option.some.injEq,Prod.mk.injEq] at e
        obtain ⟨rfl,rfl⟩ := e
        exact ⟨rfl,inv1⟩
  · cases e
theorem sound_n (pg : ProgOK P G) : ∀ n,SoundC P (callN G n) ∧ SoundL P (loopN G n)
  | 0 => ⟨fun _ _ _ _ _ e => by simp [callN] at e,fun _ _ _ _ _ _ e => by simp [loopN] at e⟩
  | n + 1 => by
    obtain ⟨h1,h2⟩ := sound_n pg n
    refine ⟨fun f args o r o' e => ?_,fun lv ob ac s ex s' e => ?_⟩
    · simp only [callN] at e
      exact body_ok pg h1 h2 f args o r o' e
    · simp only [loopN] at e
      exact loop_ok pg.mixed h1 h2 lv ob ac s ex s' e
theorem sound (pg : ProgOK P G) {f : Nat} {args : List PV} {o o' : Stack} {r : PV} (e : callI G f args o = some (r,o')) : Good P f args o r o' := by
  obtain ⟨n,hn⟩ := (callI_iff G).1 e
  exact (sound_n pg n).1 f args o r o' hn
end
end Go.Am
end
section
namespace Go.Am
section
variable (n d : Nat) (g : Id → Option OB) (ps : List PV)
@[simp] theorem core_move : core n d g .move ps = core1 n d g .move ps := by unfold core; rfl
@[simp] theorem core_pick : core n d g .pick ps = core1 n d g .pick ps := by unfold core; rfl
@[simp] theorem core_alloc (z) : core n d g (.alloc z) ps = core1 n d g (.alloc z) ps := by unfold core; rfl
@[simp] theorem core_box : core n d g .box ps = core1 n d g .box ps := by unfold core; rfl
@[simp] theorem core_build (z o) : core n d g (.build z o) ps = core1 n d g (.build z o) ps := by unfold core; rfl
@[simp] theorem core_eslice (k) : core n d g (.eslice k) ps = core1 n d g (.eslice k) ps := by unfold core; rfl
@[simp] theorem core_fsl (k) : core n d g (.fsl k) ps = core1 n d g (.fsl k) ps := by unfold core; rfl
@[simp] theorem core_sstr (k k2) : core n d g (.sstr k k2) ps = core1 n d g (.sstr k k2) ps := by unfold core; rfl
@[simp] theorem core_bslice (k m) : core n d g (.bslice k m) ps = core1 n d g (.bslice k m) ps := by unfold core; rfl
@[simp] theorem core_load (k m) : core n d g (.load k m) ps = core1 n d g (.load k m) ps := by unfold core; rfl
@[simp] theorem core_store (k m) : core n d g (.store k m) ps = core1 n d g (.store k m) ps := by unfold core; rfl
@[simp] theorem core_bin (k) : core n d g (.bin k) ps = core1 n d g (.bin k) ps := by unfold core; rfl
@[simp] theorem core_beq : core n d g .beq ps = core1 n d g .beq ps := by unfold core; rfl
@[simp] theorem core_bne : core n d g .bne ps = core1 n d g .bne ps := by unfold core; rfl
@[simp] theorem core_not : core n d g .not ps = core1 n d g .not ps := by unfold core; rfl
@[simp] theorem core_neg : core n d g .neg ps = core1 n d g .neg ps := by unfold core; rfl
@[simp] theorem core_faddr (k) : core n d g (.faddr k) ps = core1 n d g (.faddr k) ps := by unfold core; rfl
@[simp] theorem core_iaddr (k) : core n d g (.iaddr k) ps = core1 n d g (.iaddr k) ps := by unfold core; rfl
@[simp] theorem core_iarr (k m) : core n d g (.iarr k m) ps = core1 n d g (.iarr k m) ps := by unfold core; rfl
@[simp] theorem core_idx (a b c) : core n d g (.idx a b c) ps = core1 n d g (.idx a b c) ps := by unfold core; rfl
@[simp] theorem core_istr : core n d g .istr ps = core1 n d g .istr ps := by unfold core; rfl
@[simp] theorem core_bstr : core n d g .bstr ps = core1 n d g .bstr ps := by unfold core; rfl
@[simp] theorem core_fld (a b) : core n d g (.fld a b) ps = core1 n d g (.fld a b) ps := by unfold core; rfl
@[simp] theorem core_ext (a) : core n d g (.ext a) ps = core1 n d g (.ext a) ps := by unfold core; rfl
@[simp] theorem core_len : core n d g .len ps = core1 n d g .len ps := by unfold core; rfl
@[simp] theorem core_lens : core n d g .lens ps = core1 n d g .lens ps := by unfold core; rfl
@[simp] theorem core_append (a b) : core n d g (.append a b) ps = core1 n d g (.append a b) ps := by unfold core; rfl
@[simp] theorem core_mkslice (a b) : core n d g (.mkslice a b) ps = core1 n d g (.mkslice a b) ps := by unfold core; rfl
@[simp] theorem core_mkfunc (a) : core n d g (.mkfunc a) ps = core1 n d g (.mkfunc a) ps := by unfold core; rfl
@[simp] theorem core_conv (a) : core n d g (.conv a) ps = core1 n d g (.conv a) ps := by unfold core; rfl
@[simp] theorem core_min2 : core n d g .min2 ps = core1 n d g .min2 ps := by unfold core; rfl
@[simp] theorem core_max2 : core n d g .max2 ps = core1 n d g .max2 ps := by unfold core; rfl
@[simp] theorem core_isnil : core n d g .isnil ps = core1 n d g .isnil ps := by unfold core; rfl
@[simp] theorem core_take : core n d g .take ps = core1 n d g .take ps := by unfold core; rfl
@[simp] theorem core_slice (a b c) : core n d g (.slice a b c) ps = core1 n d g (.slice a b c) ps := by unfold core; rfl
@[simp] theorem core_copy : core n d g .copy ps = core1 n d g .copy ps := by unfold core; rfl
@[simp] theorem core_clear (a b) : core n d g (.clear a b) ps = core1 n d g (.clear a b) ps := by unfold core; rfl
@[simp] theorem core_mkmap (a) : core n d g (.mkmap a) ps = core1 n d g (.mkmap a) ps := by unfold core; rfl
@[simp] theorem core_lookup (a b c) : core n d g (.lookup a b c) ps = core1 n d g (.lookup a b c) ps := by unfold core; rfl
@[simp] theorem core_mapset (a) : core n d g (.mapset a) ps = core1 n d g (.mapset a) ps := by unfold core; rfl
@[simp] theorem core_meq (a) : core n d g (.meq a) ps = core1 n d g (.meq a) ps := by unfold core; rfl
@[simp] theorem core_nck : core n d g .nck ps = core1 n d g .nck ps := by unfold core; rfl
open Classical in
@[simp] theorem core_chk (k : K) (x : PV) (xs : List PV) : core n d g (.chk k) (x :: xs) = if core1 n d g k xs = some (x,[]) then some (.undef,[]) else none := by unfold core; rfl
end
section
variable {call : CallF} {lp : List Nat → List Nat → AC → St → Option (EX × St)}
noncomputable def seqK (call : CallF) (lp : List Nat → List Nat → AC → St → Option (EX × St)) (b : AC) : Option (EX × St) → Option (EX × St)
  | some (.normal,s') => run call lp b s'
  | r => r
noncomputable def condK (call : CallF) (lp : List Nat → List Nat → AC → St → Option (EX × St)) (a b : AC) (s : St) : PV → Option (EX × St)
  | .sc (.bool t) => if t = true then run call lp a s else run call lp b s
  | _ => none
def blockK (n : Nat) : Option (EX × St) → Option (EX × St)
  | some (.exit m,s') => if m = n then some (.normal,s') else some (.exit m,s')
  | r => r
noncomputable def stepsK (call : CallF) (r : List AI) : Option St → Option St
  | some s' => steps call s' r
  | none => none
def regK (lv ob : List Nat) : Option St → Option (EX × St)
  | some s' => fin (s'.keep lv ob)
  | none => none
def putK (s : St) (d : Option Nat) : Option (PV × List (Id × OB)) → Option St
  | some (v,ws) => some ((s.sets ws).put d v)
  | none => none
@[simp] theorem run_skip' (s : St) : run call lp .skip s = some (.normal,s) := rfl
@[simp] theorem run_reg' (o as lv ob) (s : St) : run call lp (.reg o as lv ob) s = regK lv ob (steps call s as) := by simp only [run]; cases steps call s as <;> rfl
noncomputable def nestR (call : CallF) (lv ob : List Nat) (post : List AI) : Option St → Option (EX × St)
  | some s3 => regK lv ob (steps call s3 post)
  | none => none
noncomputable def nestQ (call : CallF) (lv ob : List Nat) (ld cl : AI) (post : List AI) : Option St → Option (EX × St)
  | some s2 => nestR call lv ob post (nestStep call s2 ld cl)
  | none => none
noncomputable def nestP (call : CallF) (lv ob : List Nat) (ld : AI) (mids : List AI) (cl : AI) (post : List AI) : Option St → Option (EX × St)
  | some s1 => if peekOK s1 ld = true then nestQ call lv ob ld cl post (steps call (s1.put ld.d .undef) mids) else none
  | none => none
@[simp] theorem nestR_s (lv ob post) (s : St) : nestR call lv ob post (some s) = regK lv ob (steps call s post) := rfl
@[simp] theorem nestQ_s (lv ob ld cl post) (s : St) : nestQ call lv ob ld cl post (some s) = nestR call lv ob post (nestStep call s ld cl) := rfl
@[simp] theorem nestP_s (lv ob ld mids cl post) (s : St) : nestP call lv ob ld mids cl post (some s) = if peekOK s ld = true then nestQ call lv ob ld cl post (steps call (s.put ld.d .undef) mids) else none := rfl
@[simp] theorem run_nest' (pre ld mids cl post lv ob) (s : St) : run call lp (.nest pre ld mids cl post lv ob) s = nestP call lv ob ld mids cl post (steps call s pre) := by
  simp only [run]
  cases steps call s pre with
  | none => rfl
  | some s1 =>
    simp only [nestP]
    split
    · cases steps call (s1.put ld.d .undef) mids with
      | none => rfl
      | some s2 =>
        simp only [nestQ]
        cases nestStep call s2 ld cl with
        | none => rfl
        | some s3 =>
          simp only [nestR]
          cases steps call s3 post <;> rfl
    · rfl
@[simp] theorem run_seq' (a b) (s : St) : run call lp (.seq a b) s = seqK call lp b (run call lp a s) := by
  simp only [run]
  cases run call lp a s with
  | none => rfl
  | some p => obtain ⟨e,s'⟩ := p; cases e <;> rfl
@[simp] theorem run_cond' (c a b) (s : St) : run call lp (.cond c a b) s = condK call lp a b s (s.ev c) := by
  simp only [run]
  cases s.ev c with
  | sc v => cases v <;> rfl
  | _ => rfl
@[simp] theorem run_block' (n a) (s : St) : run call lp (.block n a) s = blockK n (run call lp a s) := by
  simp only [run]
  cases run call lp a s with
  | none => rfl
  | some p => obtain ⟨e,s'⟩ := p; cases e <;> rfl
noncomputable def altK : Option (EX × St) → Option (EX × St) → Option (EX × St)
  | some x,some y => @ite _ (x = y) (Classical.propDecidable _) (some x) none
  | _,_ => none
@[simp] theorem run_alt' (i j m a b) (s : St) : run call lp (.alt i j m a b) s = altK (run call lp a s) (run call lp b s) := by
  simp only [run]
  rcases run call lp a s with _ | x
  · rfl
  · rcases run call lp b s with _ | y <;> rfl
@[simp] theorem altK_same (x) : altK (some x) (some x) = some x := by simp [altK]
@[simp] theorem altK_i {p : Prop} [Decidable p] (x y x' y') : altK (if p then x else y) (if p then x' else y') = if p then altK x x' else altK y y' := by split <;> rfl
@[simp] theorem run_loop' (lv ob a) (s : St) : run call lp (.loop lv ob a) s = lp lv ob a s := rfl
@[simp] theorem run_exit' (n) (s : St) : run call lp (.exit n) s = some (.exit n,s) := rfl
@[simp] theorem run_ret' (s : St) : run call lp .ret s = some (.ret,s) := rfl
@[simp] theorem seqK_n (b) (s : St) : seqK call lp b (some (.normal,s)) = run call lp b s := rfl
@[simp] theorem seqK_e (b n) (s : St) : seqK call lp b (some (.exit n,s)) = some (.exit n,s) := rfl
@[simp] theorem seqK_r (b) (s : St) : seqK call lp b (some (.ret,s)) = some (.ret,s) := rfl
@[simp] theorem seqK_o (b) : seqK call lp b none = none := rfl
@[simp] theorem condK_t (a b) (s : St) : condK call lp a b s (.sc (.bool true)) = run call lp a s := rfl
@[simp] theorem condK_f (a b) (s : St) : condK call lp a b s (.sc (.bool false)) = run call lp b s := rfl
@[simp] theorem blockK_n (n) (s : St) : blockK n (some (.normal,s)) = some (.normal,s) := rfl
@[simp] theorem blockK_e (n m) (s : St) : blockK n (some (.exit m,s)) = if m = n then some (.normal,s) else some (.exit m,s) := rfl
@[simp] theorem blockK_r (n) (s : St) : blockK n (some (.ret,s)) = some (.ret,s) := rfl
@[simp] theorem blockK_o (n) : blockK n none = none := rfl
@[simp] theorem steps_nil' (s : St) : steps call s [] = some s := rfl
theorem steps_cons' (a r) (s : St) : steps call s (a :: r) = stepsK call r (stepI call s a) := by simp only [steps]; cases stepI call s a <;> rfl
@[simp] theorem stepsK_s (r) (s : St) : stepsK call r (some s) = steps call s r := rfl
@[simp] theorem stepsK_o (r) : stepsK call r none = none := rfl
@[simp] theorem regK_s (lv ob) (s : St) : regK lv ob (some s) = fin (s.keep lv ob) := rfl
@[simp] theorem regK_o (lv ob) : regK lv ob none = none := rfl
@[simp] theorem steps_n (d k xs r) (s : St) : steps call s (⟨d,k,xs,none⟩ :: r) = stepsK call r (stepGo call s ⟨d,k,xs,none⟩) := by rw [steps_cons',stepI_eq]
@[simp] theorem go_call (s : St) (d b l xs g) : stepGo call s ⟨d,.call b l,xs,g⟩ = stepCall call s d b l (xs.map s.ev) := rfl
theorem go_op (s : St) (d k xs g) (h : isCall k = false) : stepGo call s ⟨d,k,xs,g⟩ = putK s d (core s.o.length (d.getD 999) s.get k (xs.map s.ev)) := by
  unfold stepGo
  split
  · rename_i b l hk; simp only at hk; rw [hk] at h; cases h
  · cases core s.o.length (d.getD 999) s.get k (xs.map s.ev) <;> rfl
@[simp] theorem putK_s (s : St) (d v ws) : putK s d (some (v,ws)) = (some ((s.sets ws).put d v)) := rfl
@[simp] theorem putK_o (s : St) (d) : putK s d none = none := rfl
end
@[simp] theorem go_move {call : CallF} (s : St) (d xs g) : stepGo call s ⟨d,.move,xs,g⟩ = putK s d (core1 s.o.length (d.getD 999) s.get .move (xs.map s.ev)) := by rw [go_op _ _ _ _ _ rfl,core_move]
@[simp] theorem go_pick {call : CallF} (s : St) (d xs g) : stepGo call s ⟨d,.pick,xs,g⟩ = putK s d (core1 s.o.length (d.getD 999) s.get .pick (xs.map s.ev)) := by rw [go_op _ _ _ _ _ rfl,core_pick]
@[simp] theorem go_alloc (z) {call : CallF} (s : St) (d xs g) : stepGo call s ⟨d,(.alloc z),xs,g⟩ = putK s d (core1 s.o.length (d.getD 999) s.get (.alloc z) (xs.map s.ev)) := by rw [go_op _ _ _ _ _ rfl,core_alloc]
@[simp] theorem go_box {call : CallF} (s : St) (d xs g) : stepGo call s ⟨d,.box,xs,g⟩ = putK s d (core1 s.o.length (d.getD 999) s.get .box (xs.map s.ev)) := by rw [go_op _ _ _ _ _ rfl,core_box]
@[simp] theorem go_build (z o) {call : CallF} (s : St) (d xs g) : stepGo call s ⟨d,(.build z o),xs,g⟩ = putK s d (core1 s.o.length (d.getD 999) s.get (.build z o) (xs.map s.ev)) := by rw [go_op _ _ _ _ _ rfl,core_build]
@[simp] theorem go_eslice (k) {call : CallF} (s : St) (d xs g) : stepGo call s ⟨d,(.eslice k),xs,g⟩ = putK s d (core1 s.o.length (d.getD 999) s.get (.eslice k) (xs.map s.ev)) := by rw [go_op _ _ _ _ _ rfl,core_eslice]
@[simp] theorem go_fsl (k) {call : CallF} (s : St) (d xs g) : stepGo call s ⟨d,(.fsl k),xs,g⟩ = putK s d (core1 s.o.length (d.getD 999) s.get (.fsl k) (xs.map s.ev)) := by rw [go_op _ _ _ _ _ rfl,core_fsl]
@[simp] theorem go_sstr (k k2) {call : CallF} (s : St) (d xs g) : stepGo call s ⟨d,(.sstr k k2),xs,g⟩ = putK s d (core1 s.o.length (d.getD 999) s.get (.sstr k k2) (xs.map s.ev)) := by rw [go_op _ _ _ _ _ rfl,core_sstr]
@[simp] theorem go_bslice (k m) {call : CallF} (s : St) (d xs g) : stepGo call s ⟨d,(.bslice k m),xs,g⟩ = putK s d (core1 s.o.length (d.getD 999) s.get (.bslice k m) (xs.map s.ev)) := by rw [go_op _ _ _ _ _ rfl,core_bslice]
@[simp] theorem go_load (k m) {call : CallF} (s : St) (d xs g) : stepGo call s ⟨d,(.load k m),xs,g⟩ = putK s d (core1 s.o.length (d.getD 999) s.get (.load k m) (xs.map s.ev)) := by rw [go_op _ _ _ _ _ rfl,core_load]
@[simp] theorem go_store (k m) {call : CallF} (s : St) (d xs g) : stepGo call s ⟨d,(.store k m),xs,g⟩ = putK s d (core1 s.o.length (d.getD 999) s.get (.store k m) (xs.map s.ev)) := by rw [go_op _ _ _ _ _ rfl,core_store]
@[simp] theorem go_bin (k) {call : CallF} (s : St) (d xs g) : stepGo call s ⟨d,(.bin k),xs,g⟩ = putK s d (core1 s.o.length (d.getD 999) s.get (.bin k) (xs.map s.ev)) := by rw [go_op _ _ _ _ _ rfl,core_bin]
@[simp] theorem go_beq {call : CallF} (s : St) (d xs g) : stepGo call s ⟨d,.beq,xs,g⟩ = putK s d (core1 s.o.length (d.getD 999) s.get .beq (xs.map s.ev)) := by rw [go_op _ _ _ _ _ rfl,core_beq]
@[simp] theorem go_bne {call : CallF} (s : St) (d xs g) : stepGo call s ⟨d,.bne,xs,g⟩ = putK s d (core1 s.o.length (d.getD 999) s.get .bne (xs.map s.ev)) := by rw [go_op _ _ _ _ _ rfl,core_bne]
@[simp] theorem go_not {call : CallF} (s : St) (d xs g) : stepGo call s ⟨d,.not,xs,g⟩ = putK s d (core1 s.o.length (d.getD 999) s.get .not (xs.map s.ev)) := by rw [go_op _ _ _ _ _ rfl,core_not]
@[simp] theorem go_neg {call : CallF} (s : St) (d xs g) : stepGo call s ⟨d,.neg,xs,g⟩ = putK s d (core1 s.o.length (d.getD 999) s.get .neg (xs.map s.ev)) := by rw [go_op _ _ _ _ _ rfl,core_neg]
@[simp] theorem go_faddr (k) {call : CallF} (s : St) (d xs g) : stepGo call s ⟨d,(.faddr k),xs,g⟩ = putK s d (core1 s.o.length (d.getD 999) s.get (.faddr k) (xs.map s.ev)) := by rw [go_op _ _ _ _ _ rfl,core_faddr]
@[simp] theorem go_iaddr (k) {call : CallF} (s : St) (d xs g) : stepGo call s ⟨d,(.iaddr k),xs,g⟩ = putK s d (core1 s.o.length (d.getD 999) s.get (.iaddr k) (xs.map s.ev)) := by rw [go_op _ _ _ _ _ rfl,core_iaddr]
@[simp] theorem go_iarr (k m) {call : CallF} (s : St) (d xs g) : stepGo call s ⟨d,(.iarr k m),xs,g⟩ = putK s d (core1 s.o.length (d.getD 999) s.get (.iarr k m) (xs.map s.ev)) := by rw [go_op _ _ _ _ _ rfl,core_iarr]
@[simp] theorem go_idx (a b c) {call : CallF} (s : St) (d xs g) : stepGo call s ⟨d,(.idx a b c),xs,g⟩ = putK s d (core1 s.o.length (d.getD 999) s.get (.idx a b c) (xs.map s.ev)) := by rw [go_op _ _ _ _ _ rfl,core_idx]
@[simp] theorem go_istr {call : CallF} (s : St) (d xs g) : stepGo call s ⟨d,.istr,xs,g⟩ = putK s d (core1 s.o.length (d.getD 999) s.get .istr (xs.map s.ev)) := by rw [go_op _ _ _ _ _ rfl,core_istr]
@[simp] theorem go_bstr {call : CallF} (s : St) (d xs g) : stepGo call s ⟨d,.bstr,xs,g⟩ = putK s d (core1 s.o.length (d.getD 999) s.get .bstr (xs.map s.ev)) := by rw [go_op _ _ _ _ _ rfl,core_bstr]
@[simp] theorem go_fld (a b) {call : CallF} (s : St) (d xs g) : stepGo call s ⟨d,(.fld a b),xs,g⟩ = putK s d (core1 s.o.length (d.getD 999) s.get (.fld a b) (xs.map s.ev)) := by rw [go_op _ _ _ _ _ rfl,core_fld]
@[simp] theorem go_ext (a) {call : CallF} (s : St) (d xs g) : stepGo call s ⟨d,(.ext a),xs,g⟩ = putK s d (core1 s.o.length (d.getD 999) s.get (.ext a) (xs.map s.ev)) := by rw [go_op _ _ _ _ _ rfl,core_ext]
@[simp] theorem go_len {call : CallF} (s : St) (d xs g) : stepGo call s ⟨d,.len,xs,g⟩ = putK s d (core1 s.o.length (d.getD 999) s.get .len (xs.map s.ev)) := by rw [go_op _ _ _ _ _ rfl,core_len]
@[simp] theorem go_lens {call : CallF} (s : St) (d xs g) : stepGo call s ⟨d,.lens,xs,g⟩ = putK s d (core1 s.o.length (d.getD 999) s.get .lens (xs.map s.ev)) := by rw [go_op _ _ _ _ _ rfl,core_lens]
@[simp] theorem go_append (a b) {call : CallF} (s : St) (d xs g) : stepGo call s ⟨d,(.append a b),xs,g⟩ = putK s d (core1 s.o.length (d.getD 999) s.get (.append a b) (xs.map s.ev)) := by rw [go_op _ _ _ _ _ rfl,core_append]
@[simp] theorem go_mkslice (a b) {call : CallF} (s : St) (d xs g) : stepGo call s ⟨d,(.mkslice a b),xs,g⟩ = putK s d (core1 s.o.length (d.getD 999) s.get (.mkslice a b) (xs.map s.ev)) := by rw [go_op _ _ _ _ _ rfl,core_mkslice]
@[simp] theorem go_mkfunc (a) {call : CallF} (s : St) (d xs g) : stepGo call s ⟨d,(.mkfunc a),xs,g⟩ = putK s d (core1 s.o.length (d.getD 999) s.get (.mkfunc a) (xs.map s.ev)) := by rw [go_op _ _ _ _ _ rfl,core_mkfunc]
@[simp] theorem go_conv (a) {call : CallF} (s : St) (d xs g) : stepGo call s ⟨d,(.conv a),xs,g⟩ = putK s d (core1 s.o.length (d.getD 999) s.get (.conv a) (xs.map s.ev)) := by rw [go_op _ _ _ _ _ rfl,core_conv]
@[simp] theorem go_min2 {call : CallF} (s : St) (d xs g) : stepGo call s ⟨d,.min2,xs,g⟩ = putK s d (core1 s.o.length (d.getD 999) s.get .min2 (xs.map s.ev)) := by rw [go_op _ _ _ _ _ rfl,core_min2]
@[simp] theorem go_max2 {call : CallF} (s : St) (d xs g) : stepGo call s ⟨d,.max2,xs,g⟩ = putK s d (core1 s.o.length (d.getD 999) s.get .max2 (xs.map s.ev)) := by rw [go_op _ _ _ _ _ rfl,core_max2]
@[simp] theorem go_isnil {call : CallF} (s : St) (d xs g) : stepGo call s ⟨d,.isnil,xs,g⟩ = putK s d (core1 s.o.length (d.getD 999) s.get .isnil (xs.map s.ev)) := by rw [go_op _ _ _ _ _ rfl,core_isnil]
@[simp] theorem go_slice (a b c) {call : CallF} (s : St) (d xs g) : stepGo call s ⟨d,(.slice a b c),xs,g⟩ = putK s d (core1 s.o.length (d.getD 999) s.get (.slice a b c) (xs.map s.ev)) := by rw [go_op _ _ _ _ _ rfl,core_slice]
@[simp] theorem go_copy {call : CallF} (s : St) (d xs g) : stepGo call s ⟨d,.copy,xs,g⟩ = putK s d (core1 s.o.length (d.getD 999) s.get .copy (xs.map s.ev)) := by rw [go_op _ _ _ _ _ rfl,core_copy]
@[simp] theorem go_clear (a b) {call : CallF} (s : St) (d xs g) : stepGo call s ⟨d,(.clear a b),xs,g⟩ = putK s d (core1 s.o.length (d.getD 999) s.get (.clear a b) (xs.map s.ev)) := by rw [go_op _ _ _ _ _ rfl,core_clear]
@[simp] theorem go_mkmap (a) {call : CallF} (s : St) (d xs g) : stepGo call s ⟨d,(.mkmap a),xs,g⟩ = putK s d (core1 s.o.length (d.getD 999) s.get (.mkmap a) (xs.map s.ev)) := by rw [go_op _ _ _ _ _ rfl,core_mkmap]
@[simp] theorem go_lookup (a b c) {call : CallF} (s : St) (d xs g) : stepGo call s ⟨d,(.lookup a b c),xs,g⟩ = putK s d (core1 s.o.length (d.getD 999) s.get (.lookup a b c) (xs.map s.ev)) := by rw [go_op _ _ _ _ _ rfl,core_lookup]
@[simp] theorem go_mapset (a) {call : CallF} (s : St) (d xs g) : stepGo call s ⟨d,(.mapset a),xs,g⟩ = putK s d (core1 s.o.length (d.getD 999) s.get (.mapset a) (xs.map s.ev)) := by rw [go_op _ _ _ _ _ rfl,core_mapset]
@[simp] theorem go_meq (a) {call : CallF} (s : St) (d xs g) : stepGo call s ⟨d,(.meq a),xs,g⟩ = putK s d (core1 s.o.length (d.getD 999) s.get (.meq a) (xs.map s.ev)) := by rw [go_op _ _ _ _ _ rfl,core_meq]
@[simp] theorem go_take {call : CallF} (s : St) (d xs g) : stepGo call s ⟨d,.take,xs,g⟩ = putK s d (core1 s.o.length (d.getD 999) s.get .take (xs.map s.ev)) := by rw [go_op _ _ _ _ _ rfl,core_take]
@[simp] theorem go_nck {call : CallF} (s : St) (d xs g) : stepGo call s ⟨d,.nck,xs,g⟩ = putK s d (core1 s.o.length (d.getD 999) s.get .nck (xs.map s.ev)) := by rw [go_op _ _ _ _ _ rfl,core_nck]
@[simp] theorem go_chk (k : K) {call : CallF} (s : St) (d xs g) : stepGo call s ⟨d,.chk k,xs,g⟩ = putK s d (core s.o.length (d.getD 999) s.get (.chk k) (xs.map s.ev)) := go_op _ _ _ _ _ rfl
section
variable (n d : Nat) (g : Id → Option OB)
def guardK (b : Bool) (r : Option (PV × List (Id × OB))) : Option (PV × List (Id × OB)) := if b = true then r else none
@[simp] theorem guardK_t (r) : guardK true r = r := rfl
@[simp] theorem guardK_f (r) : guardK false r = none := rfl
@[simp] theorem c_move (x) : core1 n d g .move [x] = some (x,[]) := rfl
@[simp] theorem c_pick (c a b) : core1 n d g .pick [.sc (.bool c),a,b] = some (if c = true then a else b,[]) := rfl
@[simp] theorem c_alloc (z) : core1 n d g (.alloc z) [] = if (g (n,d)).isNone = true then some (.ref (n,d) 1 0 0,[((n,d),.box z)]) else none := rfl
@[simp] theorem c_box (x) : core1 n d g .box [x] = if ((g (n,d)).isNone && sure x) = true then some (.ref (n,d) 1 0 0,[((n,d),.box x.cells)]) else none := rfl
def aggK : Option (List PV) → Option (PV × List (Id × OB))
  | some cs => some (.agg cs,[])
  | none => none
@[simp] theorem aggK_s (cs) : aggK (some cs) = some (.agg cs,[]) := rfl
@[simp] theorem c_build (z offs xs) : core1 n d g (.build z offs) xs = aggK (buildC z offs xs) := by
  simp only [core1]; cases buildC z offs xs <;> rfl
@[simp] theorem buildC_nil (z) : buildC z [] [] = some z := rfl
@[simp] theorem buildC_cons (z o m os x xs) : buildC z ((o,m) :: os) (x :: xs) = if x.cells.length = m ∧ o + m ≤ z.length ∧ sure x = true then buildC (putC z o x.cells) os xs else none := rfl
def bsK (n d k : Nat) (e : Bool) : Option (List PV × List (Id × OB)) → Option (PV × List (Id × OB))
  | some (ys,ws) => if (nodupId ws && e && ys.all (fun y => decide (y.cells.length = k))) = true then some (.own (n,d) ys.length,ws ++ [((n,d),.row k ys)]) else none
  | none => none
@[simp] theorem bsK_s (k e ys ws) : bsK n d k e (some (ys,ws)) = if (nodupId ws && e && ys.all (fun y => decide (y.cells.length = k))) = true then some (.own (n,d) ys.length,ws ++ [((n,d),.row k ys)]) else none := rfl
@[simp] theorem c_eslice (k) : core1 n d g (.eslice k) [] = if (g (n,d)).isNone = true then some (.own (n,d) 0,[((n,d),.row k [])]) else none := rfl
@[simp] theorem c_bslice0 (k mv) : core1 n d g (.bslice k mv) [] = some (.nils,[]) := rfl
@[simp] theorem c_bslice (k mv x xs) : core1 n d g (.bslice k mv) (x :: xs) = bsK n d k (g (n,d)).isNone (packEs mv g (x :: xs)) := by
  simp only [core1]; rcases packEs mv g (x :: xs) with _ | ⟨ys,ws⟩ <;> rfl
def ldC (ok : Bool) : Option PV → Option (PV × List (Id × OB))
  | some v => if ok = true then some (v,[]) else none
  | none => none
def ldB (k : Option Nat) (j : Nat) (b : Bool) : Option (List PV) → Option (PV × List (Id × OB))
  | some cs => ldC (plains cs || b) (takeC k cs j)
  | none => none
def ldA (k : Option Nat) (m i j : Nat) : Option OB → Option (PV × List (Id × OB))
  | some ob => ldB k j ob.isBox (ob.elem m i)
  | none => none
@[simp] theorem ldC_s (ok v) : ldC ok (some v) = if ok = true then some (v,[]) else none := rfl
@[simp] theorem ldB_s (k j b cs) : ldB k j b (some cs) = ldC (plains cs || b) (takeC k cs j) := rfl
@[simp] theorem ldA_s (k m i j ob) : ldA k m i j (some ob) = ldB k j ob.isBox (ob.elem m i) := rfl
@[simp] theorem c_loadr (k tk id m i j) : core1 n d g (.load k tk) [.ref id m i j] = ldA k m i j (g id) := by
  simp only [core1]
  cases g id with
  | none => rfl
  | some ob => simp only [ldA]; cases ob.elem m i with
    | none => rfl
    | some cs => simp only [ldB]; cases takeC k cs j <;> rfl
@[simp] theorem c_loadi (k tk cs j) : core1 n d g (.load k tk) [.iref cs j] = ldC true (takeC k cs j) := by
  simp only [core1]; cases takeC k cs j <;> rfl
def stC (id : Id) (k w i j : Nat) (xs : List PV) (ys : List PV) (ws : List (Id × OB)) : Option PV → Option (PV × List (Id × OB))
  | some e => if ys.length = w ∧ j + w ≤ e.cells.length then some (.undef,ws ++ [(id,.row k (xs.set i (unAgg e (putC e.cells j ys))))]) else none
  | none => none
def stB (id : Id) (k w i j : Nat) (xs : List PV) : Option (List PV × List (Id × OB)) → Option (PV × List (Id × OB))
  | some (ys,ws) => if nodupId ((id,.dead) :: ws) = true then stC id k w i j xs ys ws (nth xs i) else none
  | none => none
def stA (g : Id → Option OB) (id : Id) (w : Nat) (mv : Bool) (m i j : Nat) (x : PV) : Option OB → Option (PV × List (Id × OB))
  | some (.box cs) => if x.cells.length = w ∧ sure x = true ∧ m = 1 ∧ i = 0 ∧ j + w ≤ cs.length ∧ upTos id.1 x.cells = true then some (.undef,[(id,.box (putC cs j x.cells))]) else none
  | some (.row k xs) => if m = xs.length then stB id k w i j xs (packs mv g x.cells) else none
  | _ => none
@[simp] theorem stC_s (id k w i j xs ys ws e) : stC id k w i j xs ys ws (some e) = if ys.length = w ∧ j + w ≤ e.cells.length then some (.undef,ws ++ [(id,.row k (xs.set i (unAgg e (putC e.cells j ys))))]) else none := rfl
@[simp] theorem stB_s (id k w i j xs ys ws) : stB id k w i j xs (some (ys,ws)) = if nodupId ((id,.dead) :: ws) = true then stC id k w i j xs ys ws (nth xs i) else none := rfl
@[simp] theorem stA_b (id w mv m i j x cs) : stA g id w mv m i j x (some (.box cs)) = if x.cells.length = w ∧ sure x = true ∧ m = 1 ∧ i = 0 ∧ j + w ≤ cs.length ∧ upTos id.1 x.cells = true then some (.undef,[(id,.box (putC cs j x.cells))]) else none := rfl
@[simp] theorem stA_r (id w mv m i j x k xs) : stA g id w mv m i j x (some (.row k xs)) = if m = xs.length then stB id k w i j xs (packs mv g x.cells) else none := rfl
@[simp] theorem c_store (w mv id m i j x) : core1 n d g (.store w mv) [.ref id m i j,x] = stA g id w mv m i j x (g id) := by
  simp only [core1]
  rcases g id with _ | ob
  · rfl
  · cases ob <;> rfl
def someK : Option PV → Option (PV × List (Id × OB))
  | some v => some (v,[])
  | none => none
@[simp] theorem someK_s (v) : someK (some v) = some (v,[]) := rfl
@[simp] theorem c_bin (op x y) : core1 n d g (.bin op) [x,y] = someK (bin op x y) := by
  simp only [core1]; cases bin op x y <;> rfl
@[simp] theorem b_add (k a b) : bin .add (.sc (.int k a)) (.sc (.int k b)) = some (.sc (.int k (k.wrap (a + b)))) := by simp [bin]
@[simp] theorem b_sub (k a b) : bin .sub (.sc (.int k a)) (.sc (.int k b)) = some (.sc (.int k (k.wrap (a - b)))) := by simp [bin]
@[simp] theorem b_mul (k a b) : bin .mul (.sc (.int k a)) (.sc (.int k b)) = some (.sc (.int k (k.wrap (a * b)))) := by simp [bin]
@[simp] theorem b_quo (k a b) : bin .quo (.sc (.int k a)) (.sc (.int k b)) = if b = 0 then none else some (.sc (.int k (k.wrap (a.tdiv b)))) := by simp [bin]
@[simp] theorem b_rem (k a b) : bin .rem (.sc (.int k a)) (.sc (.int k b)) = if b = 0 then none else some (.sc (.int k (a.tmod b))) := by simp [bin]
@[simp] theorem b_eq (k a b) : bin .eq (.sc (.int k a)) (.sc (.int k b)) = some (.b (decide (a = b))) := by simp [bin]; rfl
@[simp] theorem b_ne (k a b) : bin .ne (.sc (.int k a)) (.sc (.int k b)) = some (.b (decide (¬ a = b))) := by
  simp only [bin,if_true]; congr 3; simp [bne]; rfl
@[simp] theorem b_lt (k a b) : bin .lt (.sc (.int k a)) (.sc (.int k b)) = some (.b (decide (a < b))) := by simp [bin]
@[simp] theorem b_le (k a b) : bin .le (.sc (.int k a)) (.sc (.int k b)) = some (.b (decide (a ≤ b))) := by simp [bin]
@[simp] theorem b_gt (k a b) : bin .gt (.sc (.int k a)) (.sc (.int k b)) = some (.b (decide (b < a))) := by simp [bin]
@[simp] theorem b_ge (k a b) : bin .ge (.sc (.int k a)) (.sc (.int k b)) = some (.b (decide (b ≤ a))) := by simp [bin]
@[simp] theorem b_adds (a b) : bin .add (.sc (.string a)) (.sc (.string b)) = if a.size + b.size ≤ 9223372036854775807 then some (.s (a ++ b)) else none := rfl
@[simp] theorem b_eqs (a b) : bin .eq (.sc (.string a)) (.sc (.string b)) = some (.b (a.toList == b.toList)) := rfl
@[simp] theorem b_nes (a b) : bin .ne (.sc (.string a)) (.sc (.string b)) = some (.b (!(a.toList == b.toList))) := rfl
@[simp] theorem b_lts (a b) : bin .lt (.sc (.string a)) (.sc (.string b)) = some (.b (Op.bytesLess a.toList b.toList)) := rfl
@[simp] theorem c_beq (a b) : core1 n d g .beq [.sc (.bool a),.sc (.bool b)] = some (.b (a == b),[]) := rfl
@[simp] theorem c_bne (a b) : core1 n d g .bne [.sc (.bool a),.sc (.bool b)] = some (.b (!(a == b)),[]) := rfl
@[simp] theorem c_not (b) : core1 n d g .not [.sc (.bool b)] = some (.b (!b),[]) := rfl
@[simp] theorem c_neg (k a) : core1 n d g .neg [.sc (.int k a)] = some (.sc (.int k (k.wrap (0 - a))),[]) := rfl
@[simp] theorem c_faddr (off id m i j) : core1 n d g (.faddr off) [.ref id m i j] = if live g id m i = true then some (.ref id m i (j + off),[]) else none := rfl
@[simp] theorem c_faddri (off cs j) : core1 n d g (.faddr off) [.iref cs j] = some (.iref cs (j + off),[]) := rfl
def irK : Option PV → Option (PV × List (Id × OB))
  | some e => some (.iref e.cells 0,[])
  | none => none
@[simp] theorem irK_s (e) : irK (some e) = some (.iref e.cells 0,[]) := rfl
@[simp] theorem c_iaddr (es k xs i) : core1 n d g (.iaddr es) [.sl false k xs,.sc (.int .i64 i)] = if k = es ∧ ib i xs.length = true then irK (nth xs i.toNat) else none := by
  simp only [core1]; cases nth xs i.toNat <;> rfl
def iaK (id : Id) (es m : Nat) (i : Int) : Option OB → Option (PV × List (Id × OB))
  | some (.row k xs) => if k = es ∧ m = xs.length ∧ ib i m = true then some (.ref id m i.toNat 0,[]) else none
  | some (.frz k xs) => if k = es ∧ m = xs.length ∧ ib i m = true then irK (nth xs i.toNat) else none
  | _ => none
@[simp] theorem iaK_r (id es m i k xs) : iaK id es m i (some (.row k xs)) = if k = es ∧ m = xs.length ∧ ib i m = true then some (.ref id m i.toNat 0,[]) else none := rfl
@[simp] theorem iaK_f (id es m i k xs) : iaK id es m i (some (.frz k xs)) = if k = es ∧ m = xs.length ∧ ib i m = true then irK (nth xs i.toNat) else none := rfl
@[simp] theorem c_iaddro (es id m i) : core1 n d g (.iaddr es) [.own id m,.sc (.int .i64 i)] = iaK id es m i (g id) := by
  simp only [core1]
  rcases g id with _ | ob
  · rfl
  · cases ob <;> rfl
@[simp] theorem c_iarr (es m id a b j i) : core1 n d g (.iarr es m) [.ref id a b j,.sc (.int .i64 i)] = if (live g id a b && ib i m) = true then some (.ref id a b (j + i.toNat * es),[]) else none := rfl
@[simp] theorem c_iarri (es m cs j i) : core1 n d g (.iarr es m) [.iref cs j,.sc (.int .i64 i)] = if ib i m = true then some (.iref cs (j + i.toNat * es),[]) else none := rfl
@[simp] theorem c_idx (k es m cs i) : core1 n d g (.idx k es m) [.agg cs,.sc (.int .i64 i)] = if ib i m = true then ldC true (takeC k cs (i.toNat * es)) else none := by
  simp only [core1]; cases takeC k cs (i.toNat * es) <;> rfl
@[simp] theorem c_istr (b i) : core1 n d g .istr [.sc (.string b),.sc (.int .i64 i)] = if h : 0 ≤ i ∧ i.toNat < b.size then some (.sc (.int .u8 (b[i.toNat]'h.2).toNat),[]) else none := rfl
@[simp] theorem c_fld (k off cs) : core1 n d g (.fld k off) [.agg cs] = ldC true (takeC k cs off) := by
  simp only [core1]; cases takeC k cs off <;> rfl
def exK : Option PV → Option (PV × List (Id × OB))
  | some (.tup _) => none
  | some v => some (v,[])
  | none => none
@[simp] theorem exK_sc (v) : exK (some (.sc v)) = some (.sc v,[]) := rfl
@[simp] theorem exK_agg (v) : exK (some (.agg v)) = some (.agg v,[]) := rfl
@[simp] theorem exK_nils : exK (some .nils) = some (.nils,[]) := rfl
@[simp] theorem exK_sl (u k v) : exK (some (.sl u k v)) = some (.sl u k v,[]) := rfl
@[simp] theorem exK_own (u k) : exK (some (.own u k)) = some (.own u k,[]) := rfl
@[simp] theorem exK_ref (a b c e) : exK (some (.ref a b c e)) = some (.ref a b c e,[]) := rfl
@[simp] theorem c_ext (i vs) : core1 n d g (.ext i) [.tup vs] = exK vs[i]? := by
  simp only [core1]; rcases vs[i]? with _ | v
  · rfl
  · cases v <;> rfl
@[simp] theorem c_lensl (u k xs) : core1 n d g .len [.sl u k xs] = some (.i xs.length,[]) := rfl
@[simp] theorem c_lennil : core1 n d g .len [.nils] = some (.i 0,[]) := rfl
def lenK (m : Nat) : Option OB → Option (PV × List (Id × OB))
  | some (.row _ xs) => if m = xs.length then some (.i m,[]) else none
  | some (.frz _ xs) => if m = xs.length then some (.i m,[]) else none
  | _ => none
@[simp] theorem lenK_r (m k xs) : lenK m (some (.row k xs)) = if m = xs.length then some (.i m,[]) else none := rfl
@[simp] theorem lenK_f (m k xs) : lenK m (some (.frz k xs)) = if m = xs.length then some (.i m,[]) else none := rfl
@[simp] theorem c_lenown (id m) : core1 n d g .len [.own id m] = lenK m (g id) := by
  simp only [core1]; rcases g id with _ | ob
  · rfl
  · cases ob <;> rfl
@[simp] theorem c_lens (b) : core1 n d g .lens [.sc (.string b)] = some (.i b.size,[]) := rfl
def apO (id : Id) (k m : Nat) (ys : List PV) (ws : List (Id × OB)) : Option OB → Option (PV × List (Id × OB))
  | some (.row k' xs) => if k' = k ∧ m = xs.length ∧ nodupId ((id,OB.dead) :: ws) = true ∧ xs.length + ys.length ≤ 4294967296 then some (.own id (xs.length + ys.length),ws ++ [(id,.row k (xs ++ ys))]) else none
  | _ => none
@[simp] theorem apO_r (id k m ys ws k' xs) : apO id k m ys ws (some (.row k' xs)) = if k' = k ∧ m = xs.length ∧ nodupId ((id,OB.dead) :: ws) = true ∧ xs.length + ys.length ≤ 4294967296 then some (.own id (xs.length + ys.length),ws ++ [(id,.row k (xs ++ ys))]) else none := rfl
def apNil (n d k : Nat) (e : Bool) : Option (List PV × List (Id × OB)) → Option (PV × List (Id × OB))
  | some (ys,ws) => if ys.length ≤ 4294967296 ∧ e = true then some (.own (n,d) ys.length,ws ++ [((n,d),.row k ys)]) else none
  | none => none
@[simp] theorem apNil_s (k e ys ws) : apNil n d k e (some (ys,ws)) = if ys.length ≤ 4294967296 ∧ e = true then some (.own (n,d) ys.length,ws ++ [((n,d),.row k ys)]) else none := rfl
def apOwn (g : Id → Option OB) (id : Id) (k m : Nat) : Option (List PV × List (Id × OB)) → Option (PV × List (Id × OB))
  | some (ys,ws) => apO id k m ys ws (g id)
  | none => none
@[simp] theorem apOwn_s (id k m ys ws) : apOwn g id k m (some (ys,ws)) = apO id k m ys ws (g id) := rfl
@[simp] theorem c_appnil (k cons x) : core1 n d g (.append k cons) [.nils,x] = apNil n d k (g (n,d)).isNone (srcOf g k cons x) := by
  simp only [core1]; rcases srcOf g k cons x with _ | ⟨ys,ws⟩ <;> rfl
@[simp] theorem c_appown (k cons id m x) : core1 n d g (.append k cons) [.own id m,x] = apOwn g id k m (srcOf g k cons x) := by
  simp only [core1]; rcases srcOf g k cons x with _ | ⟨ys,ws⟩
  · rfl
  · simp only [apOwn]; rcases g id with _ | ob
    · rfl
    · cases ob <;> rfl
@[simp] theorem c_mkslice (k z m c) : core1 n d g (.mkslice k z) [.sc (.int .i64 m),.sc (.int .i64 c)] = if m = c ∧ 0 ≤ m ∧ m ≤ 4294967296 ∧ (g (n,d)).isNone = true then some (.own (n,d) m.toNat,[((n,d),.row k (List.replicate m.toNat z))]) else none := rfl
@[simp] theorem c_mkfunc (f xs) : core1 n d g (.mkfunc f) xs = if xs.all (fun x => sure x && cellP x) = true then some (.clo f xs,[]) else none := rfl
@[simp] theorem c_conv (k k' a) : core1 n d g (.conv k) [.sc (.int k' a)] = some (.sc (.int k (k.wrap a)),[]) := rfl
@[simp] theorem c_min2 (a b) : core1 n d g .min2 [.sc (.int .i64 a),.sc (.int .i64 b)] = some (.i (if b < a then b else a),[]) := rfl
@[simp] theorem c_max2 (a b) : core1 n d g .max2 [.sc (.int .i64 a),.sc (.int .i64 b)] = some (.i (if a < b then b else a),[]) := rfl
@[simp] theorem c_isnilv (A m q y) : core1 n d g .isnil [.sc (.slice A m q),y] = some (.b A.isNone,[]) := rfl
@[simp] theorem c_isnil (u k x xs y) : core1 n d g .isnil [.sl u k (x :: xs),y] = some (.b false,[]) := rfl
def tkC (n d : Nat) (id : Id) (k i j : Nat) (xs : List PV) (e : PV) : Option PV → Option (PV × List (Id × OB))
  | some (.sl true k' ys) => some (.own (n,d) ys.length,[(id,.row k (xs.set i (unAgg e (e.cells.set j .undef)))),((n,d),.row k' ys)])
  | some .nils => some (.nils,[])
  | _ => none
def tkB (n d : Nat) (id : Id) (k i j : Nat) (xs : List PV) : Option PV → Option (PV × List (Id × OB))
  | some e => tkC n d id k i j xs e (nth e.cells j)
  | none => none
def tkA (n d : Nat) (id : Id) (m i j : Nat) (fresh : Bool) : Option OB → Option (PV × List (Id × OB))
  | some (.row k xs) => if m = xs.length ∧ fresh = true then tkB n d id k i j xs (nth xs i) else none
  | _ => none
@[simp] theorem tkC_s (id k i j xs e k' ys) : tkC n d id k i j xs e (some (.sl true k' ys)) = some (.own (n,d) ys.length,[(id,.row k (xs.set i (unAgg e (e.cells.set j .undef)))),((n,d),.row k' ys)]) := rfl
@[simp] theorem tkC_n (id k i j xs e) : tkC n d id k i j xs e (some .nils) = some (.nils,[]) := rfl
@[simp] theorem tkB_s (id k i j xs e) : tkB n d id k i j xs (some e) = tkC n d id k i j xs e (nth e.cells j) := rfl
@[simp] theorem tkA_s (id m i j fresh k xs) : tkA n d id m i j fresh (some (.row k xs)) = if m = xs.length ∧ fresh = true then tkB n d id k i j xs (nth xs i) else none := rfl
@[simp] theorem nth_0 (x xs) : nth (x :: xs) 0 = some x := rfl
@[simp] theorem nth_s (x xs i) : nth (x :: xs) (i + 1) = nth xs i := by simp [nth]
@[simp] theorem nth_1 (x y xs) : nth (x :: y :: xs) 1 = some y := rfl
@[simp] theorem nth_2 (x y z xs) : nth (x :: y :: z :: xs) 2 = some z := rfl
@[simp] theorem nth_3 (x y z u xs) : nth (x :: y :: z :: u :: xs) 3 = some u := rfl
@[simp] theorem nth_4 (x y z u v xs) : nth (x :: y :: z :: u :: v :: xs) 4 = some v := rfl
@[simp] theorem nth_5 (x y z u v a xs) : nth (x :: y :: z :: u :: v :: a :: xs) 5 = some a := rfl
@[simp] theorem c_take (id m i j) : core1 n d g .take [.ref id m i j] = tkA n d id m i j (g (n,d)).isNone (g id) := by
  simp only [core1]
  rcases g id with _ | ob
  · rfl
  · cases ob <;> rfl
@[simp] theorem sliceOf_lo1 (m : Nat) (a : Int) : sliceOf true false m [.sc (.int .i64 a)] = if 0 ≤ a ∧ a ≤ m then some (a.toNat,m) else none := by simp [sliceOf]
@[simp] theorem sliceOf_hi1 (m : Nat) (a : Int) : sliceOf false true m [.sc (.int .i64 a)] = if 0 ≤ a ∧ a ≤ m then some (0,a.toNat) else none := by simp [sliceOf]
@[simp] theorem sliceOf_2 (m : Nat) (a b : Int) : sliceOf true true m [.sc (.int .i64 a),.sc (.int .i64 b)] = if 0 ≤ a ∧ a ≤ b ∧ b ≤ m then some (a.toNat,b.toNat) else none := by simp [sliceOf]
@[simp] theorem sliceOf_0 (m : Nat) : sliceOf false false m [] = some (0,m) := rfl
def slF (k : Nat) (xs : List PV) : Option (Nat × Nat) → Option (PV × List (Id × OB))
  | some (l,h) => some (.sl false k ((xs.drop l).take (h - l)),[])
  | none => none
@[simp] theorem slF_s (k xs l h) : slF k xs (some (l,h)) = some (.sl false k ((xs.drop l).take (h - l)),[]) := rfl
@[simp] theorem slF_o (k xs) : slF k xs none = none := rfl
@[simp] theorem c_slf (es lo hi k xs bs) : core1 n d g (.slice es lo hi) (.sl false k xs :: bs) = if k = es then slF k xs (sliceOf lo hi xs.length bs) else none := by
  simp only [core1]; rcases sliceOf lo hi xs.length bs with _ | ⟨l,h⟩ <;> rfl
@[simp] theorem strO_s (ns) : strO (some ns) = some (.s (strU ns),[]) := rfl
@[simp] theorem strO_o : strO none = none := rfl
def bsO : Option (List PV × List (Id × OB)) → Option (PV × List (Id × OB))
  | some (ys,_) => strO (u8s ys)
  | none => none
@[simp] theorem bsO_s (ys ws) : bsO (some (ys,ws)) = strO (u8s ys) := rfl
@[simp] theorem bsO_o : bsO none = none := rfl
@[simp] theorem c_bstr (x) : core1 n d g .bstr [x] = bsO (srcOf g 1 false x) := by
  cases x <;> (simp only [core1]; rcases srcOf g 1 false _ with _ | ⟨ys,ws⟩ <;> first | rfl | (simp only [bsO]; rcases u8s ys with _ | ns <;> rfl))
def ssP (b : ByteArray) : Option (Nat × Nat) → Option (PV × List (Id × OB))
  | some (l,h) => some (.s (b.extract l h),[])
  | none => none
@[simp] theorem ssP_s (b l h) : ssP b (some (l,h)) = some (.s (b.extract l h),[]) := rfl
@[simp] theorem ssP_o (b) : ssP b none = none := rfl
@[simp] theorem c_sstr (lo hi b bs) : core1 n d g (.sstr lo hi) (.sc (.string b) :: bs) = ssP b (sliceOf lo hi b.size bs) := by
  simp only [core1]; rcases sliceOf lo hi b.size bs with _ | ⟨l,h⟩ <;> rfl
def fsP (id : Id) (k : Nat) (xs : List PV) : Option (Nat × Nat) → Option (PV × List (Id × OB))
  | some (l,h) => some (.sl false k (((fals xs).drop l).take (h - l)),[(id,.frz k (fals xs))])
  | none => none
@[simp] theorem fsP_s (id k xs l h) : fsP id k xs (some (l,h)) = some (.sl false k (((fals xs).drop l).take (h - l)),[(id,.frz k (fals xs))]) := rfl
@[simp] theorem fsP_o (id k xs) : fsP id k xs none = none := rfl
def fsO (id : Id) (m es : Nat) (bs : List PV) : Option OB → Option (PV × List (Id × OB))
  | some (.row k xs) => if m = xs.length ∧ k = es then fsP id k xs (sliceOf true false m bs) else none
  | _ => none
@[simp] theorem fsO_r (id m es bs k xs) : fsO id m es bs (some (.row k xs)) = if m = xs.length ∧ k = es then fsP id k xs (sliceOf true false m bs) else none := rfl
@[simp] theorem c_fsl (es id m bs) : core1 n d g (.fsl es) (.own id m :: bs) = fsO id m es bs (g id) := by
  simp only [core1]
  rcases hg : g id with _ | ob
  · rfl
  · cases ob <;> first | rfl | (simp only [fsO]; split <;> first | rfl | (rcases sliceOf true false m bs with _ | ⟨l,h⟩ <;> rfl))
def slP (n d : Nat) (id : Id) (m k : Nat) (xs : List PV) (lo hi fresh : Bool) : Option (Nat × Nat) → Option (PV × List (Id × OB))
  | some (l,h) => if hi = false then some (.sub id m l,[]) else if lo = false ∧ fresh = true then some (.own (n,d) h,[(id,.dead),((n,d),.row k (xs.take h))]) else none
  | none => none
@[simp] theorem slP_s (id m k xs lo hi fresh l h) : slP n d id m k xs lo hi fresh (some (l,h)) = if hi = false then some (.sub id m l,[]) else if lo = false ∧ fresh = true then some (.own (n,d) h,[(id,.dead),((n,d),.row k (xs.take h))]) else none := rfl
@[simp] theorem slP_o (id m k xs lo hi fresh) : slP n d id m k xs lo hi fresh none = none := rfl
def slO (n d : Nat) (id : Id) (m es : Nat) (lo hi fresh : Bool) (bs : List PV) : Option OB → Option (PV × List (Id × OB))
  | some (.row k xs) => if m = xs.length ∧ k = es then slP n d id m k xs lo hi fresh (sliceOf lo hi m bs) else none
  | _ => none
@[simp] theorem slO_r (id m es lo hi fresh bs k xs) : slO n d id m es lo hi fresh bs (some (.row k xs)) = if m = xs.length ∧ k = es then slP n d id m k xs lo hi fresh (sliceOf lo hi m bs) else none := rfl
@[simp] theorem c_slo (es lo hi id m bs) : core1 n d g (.slice es lo hi) (.own id m :: bs) = slO n d id m es lo hi (g (n,d)).isNone bs (g id) := by
  simp only [core1]; rcases g id with _ | ob
  · rfl
  · cases ob with
    | row k xs => simp only [slO]; rcases sliceOf lo hi m bs with _ | ⟨l,h⟩ <;> rfl
    | _ => rfl
def lenS (m i : Nat) : Option OB → Option (PV × List (Id × OB))
  | some (.row _ xs) => if m = xs.length then some (.i (m - i : Nat),[]) else none
  | _ => none
@[simp] theorem lenS_r (m i k xs) : lenS m i (some (.row k xs)) = if m = xs.length then some (.i (m - i : Nat),[]) else none := rfl
@[simp] theorem c_lensub (id m i) : core1 n d g .len [.sub id m i] = lenS m i (g id) := by
  simp only [core1]; rcases g id with _ | ob
  · rfl
  · cases ob <;> rfl
def iaS (id : Id) (es m i : Nat) (q : Int) : Option OB → Option (PV × List (Id × OB))
  | some (.row k xs) => if k = es ∧ m = xs.length ∧ ib q (m - i) = true then some (.ref id m (i + q.toNat) 0,[]) else none
  | _ => none
@[simp] theorem iaS_r (id es m i q k xs) : iaS id es m i q (some (.row k xs)) = if k = es ∧ m = xs.length ∧ ib q (m - i) = true then some (.ref id m (i + q.toNat) 0,[]) else none := rfl
@[simp] theorem c_iaddrs (es id m i q) : core1 n d g (.iaddr es) [.sub id m i,.sc (.int .i64 q)] = iaS id es m i q (g id) := by
  simp only [core1]; rcases g id with _ | ob
  · rfl
  · cases ob <;> rfl
def clS (id : Id) (k m i : Nat) (z : PV) : Option OB → Option (PV × List (Id × OB))
  | some (.row k' xs) => if k' = k ∧ m = xs.length then some (.tup [],[(id,.row k (xs.take i ++ List.replicate (m - i) z))]) else none
  | _ => none
@[simp] theorem clS_r (id k m i z k' xs) : clS id k m i z (some (.row k' xs)) = if k' = k ∧ m = xs.length then some (.tup [],[(id,.row k (xs.take i ++ List.replicate (m - i) z))]) else none := rfl
@[simp] theorem c_clear (k z id m i) : core1 n d g (.clear k z) [.sub id m i] = clS id k m i z (g id) := by
  simp only [core1]; rcases g id with _ | ob
  · rfl
  · cases ob <;> rfl
def cpB (id : Id) (m i : Nat) (xs : List PV) : Option (List PV × List (Id × OB)) → Option (PV × List (Id × OB))
  | some (ys,_) => if scs ys = true ∧ i ≤ m then some (.i (min (m - i) ys.length : Nat),[(id,.row 1 (xs.take i ++ ys.take (min (m - i) ys.length) ++ xs.drop (i + min (m - i) ys.length)))]) else none
  | none => none
@[simp] theorem cpB_s (id m i xs ys ws) : cpB id m i xs (some (ys,ws)) = if scs ys = true ∧ i ≤ m then some (.i (min (m - i) ys.length : Nat),[(id,.row 1 (xs.take i ++ ys.take (min (m - i) ys.length) ++ xs.drop (i + min (m - i) ys.length)))]) else none := rfl
def cpA (id : Id) (m i : Nat) (r : Option (List PV × List (Id × OB))) : Option OB → Option (PV × List (Id × OB))
  | some (.row k xs) => if m = xs.length ∧ k = 1 ∧ scs xs = true then cpB id m i xs r else none
  | _ => none
@[simp] theorem cpA_r (id m i r k xs) : cpA id m i r (some (.row k xs)) = if m = xs.length ∧ k = 1 ∧ scs xs = true then cpB id m i xs r else none := rfl
@[simp] theorem c_copy (id m i x) : core1 n d g .copy [.sub id m i,x] = cpA id m i (srcOf g 1 false x) (g id) := by
  simp only [core1]; rcases g id with _ | ob
  · rfl
  · cases ob with
    | row k xs => simp only [cpA]; rcases srcOf g 1 false x with _ | ⟨ys,ws⟩ <;> rfl
    | _ => rfl
@[simp] theorem c_mkmap (s) : core1 n d g (.mkmap s) [] = if (g (n,d)).isNone then some (.mp (n,d),[((n,d),.map s [])]) else none := rfl
@[simp] theorem keyOf_i (a : Int) : keyOf (.int .i64 a) = some (.i a) := rfl
@[simp] theorem keyOf_s (b : ByteArray) : keyOf (.string b) = some (.s b) := rfl
@[simp] theorem str_i (a : Int) : (Key.i a).str = false := rfl
@[simp] theorem str_s (b : ByteArray) : (Key.s b).str = true := rfl
@[simp] theorem lkR_t (z r) : lkR true z r = .tup [r.getD z,.b r.isSome] := rfl
@[simp] theorem lkR_f (z r) : lkR false z r = r.getD z := rfl
def lkK (s ok : Bool) (z : PV) : Option OB → Option Key → Option (PV × List (Id × OB))
  | some (.map s' es),some k => if s' = s ∧ k.str = s then some (lkR ok z (lkp k es),[]) else none
  | _,_ => none
@[simp] theorem lkK_s (s ok z s' es k) : lkK s ok z (some (.map s' es)) (some k) = if s' = s ∧ k.str = s then some (lkR ok z (lkp k es),[]) else none := rfl
@[simp] theorem c_lookup (s z ok id kv) : core1 n d g (.lookup s z ok) [.mp id,.sc kv] = lkK s ok z (g id) (keyOf kv) := by
  simp only [core1]; rcases g id with _ | ob
  · rfl
  · cases ob <;> cases keyOf kv <;> rfl
@[simp] theorem c_lookupn (s z ok a) : core1 n d g (.lookup s z ok) [.sc (.map none),.sc (.int .i64 a)] = if s = false then some (lkR ok z none,[]) else none := by cases s <;> rfl
def msB (s : Bool) (id : Id) (es : List (Key × PV)) (k : Key) : Option (PV × List (Id × OB)) → Option (PV × List (Id × OB))
  | some (y,ws) => if nodupId ((id,.dead) :: ws) = true then some (.undef,ws ++ [(id,.map s (ins k y es))]) else none
  | none => none
@[simp] theorem msB_s (s id es k y ws) : msB s id es k (some (y,ws)) = if nodupId ((id,.dead) :: ws) = true then some (.undef,ws ++ [(id,.map s (ins k y es))]) else none := rfl
def msA (s : Bool) (id : Id) (p : Option (PV × List (Id × OB))) : Option OB → Option Key → Option (PV × List (Id × OB))
  | some (.map s' es),some k => if s' = s ∧ k.str = s then msB s id es k p else none
  | _,_ => none
@[simp] theorem msA_s (s id p s' es k) : msA s id p (some (.map s' es)) (some k) = if s' = s ∧ k.str = s then msB s id es k p else none := rfl
@[simp] theorem c_mapset (s id kv x) : core1 n d g (.mapset s) [.mp id,.sc kv,x] = msA s id (packE false g x) (g id) (keyOf kv) := by
  simp only [core1]; rcases g id with _ | ob
  · rfl
  · cases ob with
    | map s' es => cases keyOf kv with
      | none => rfl
      | some k => simp only [msA]; rcases packE false g x with _ | ⟨y,ws⟩ <;> rfl
    | _ => rfl
@[simp] theorem c_meq (neg a b a' b') : core1 n d g (.meq neg) [.agg [.sc (.int .i64 a),.sc (.int .i64 b)],.agg [.sc (.int .i64 a'),.sc (.int .i64 b')]] = some (.b (neg != (decide (a = a') && decide (b = b'))),[]) := rfl
@[simp] theorem c_ncki (cs j) : core1 n d g .nck [.iref cs j] = some (.iref cs j,[]) := rfl
@[simp] theorem c_nckc (f caps) : core1 n d g .nck [.clo f caps] = some (.clo f caps,[]) := rfl
@[simp] theorem c_nckr (id m i j) : core1 n d g .nck [.ref id m i j] = if live g id m i = true then some (.ref id m i j,[]) else none := rfl
end
section
variable {call : CallF} {lp : List Nat → List Nat → AC → St → Option (EX × St)}
variable {p : Prop} [Decidable p]
@[simp] theorem condK_b (a b) (s : St) (t : Bool) : condK call lp a b s (.sc (.bool t)) = if t = true then run call lp a s else run call lp b s := rfl
@[simp] theorem condK_i (a b) (s : St) (x y) : condK call lp a b s (if p then x else y) = if p then condK call lp a b s x else condK call lp a b s y := by split <;> rfl
@[simp] theorem seqK_i (b) (x y) : seqK call lp b (if p then x else y) = if p then seqK call lp b x else seqK call lp b y := by split <;> rfl
@[simp] theorem blockK_i (n) (x y) : blockK n (if p then x else y) = if p then blockK n x else blockK n y := by split <;> rfl
@[simp] theorem stepsK_i (r) (x y) : stepsK call r (if p then x else y) = if p then stepsK call r x else stepsK call r y := by split <;> rfl
@[simp] theorem regK_i (lv ob) (x y) : regK lv ob (if p then x else y) = if p then regK lv ob x else regK lv ob y := by split <;> rfl
@[simp] theorem putK_i (s : St) (d) (x y) : putK s d (if p then x else y) = if p then putK s d x else putK s d y := by split <;> rfl
def setR : Regs → Nat → PV → Regs
  | [],_,_ => []
  | (k,v) :: r,t,x => if k = t then (k,x) :: r else (k,v) :: setR r t x
@[simp] theorem setR_cons (k v r t x) : setR ((k,v) :: r) t x = if k = t then (k,x) :: r else (k,v) :: setR r t x := rfl
theorem setR_get : ∀ (r : Regs) (t : Nat),setR r t (getR r t) = r
  | [],_ => rfl
  | (k,v) :: r,t => by
    simp only [setR,getR]
    by_cases h : k = t <;> simp [h,setR_get r t]
noncomputable def gsK (call : CallF) (s : St) (a : AI) (r : List AI) (j : Nat) (w : Bool) (v : PV) : Option St :=
  stepsK call r (match v with
    | .sc (.bool b) => if b = w then stepGo call { s with r := setR s.r j v } a else some (({ s with r := setR s.r j v } : St).put a.d .non)
    | .non => some (({ s with r := setR s.r j v } : St).put a.d .non)
    | _ => none)
@[simp] theorem steps_g (d k xs j w r) (s : St) : steps call s (⟨d,k,xs,some (j,w)⟩ :: r) = gsK call s ⟨d,k,xs,some (j,w)⟩ r j w (getR s.r j) := by
  generalize hv : getR s.r j = v
  have h : ({ s with r := setR s.r j v } : St) = s := by rw [← hv,setR_get]
  unfold gsK
  rw [steps_cons',h,stepI_eq]
  dsimp only
  rw [hv]
  all_goals (cases v with
    | sc u => cases u <;> rfl
    | _ => rfl)
@[simp high] theorem gsK_tt (s : St) (a r j) : gsK call s a r j true (.sc (.bool true)) = stepsK call r (stepGo call { s with r := setR s.r j (.sc (.bool true)) } a) := rfl
@[simp high] theorem gsK_tf (s : St) (a r j) : gsK call s a r j true (.sc (.bool false)) = steps call (({ s with r := setR s.r j (.sc (.bool false)) } : St).put a.d .non) r := rfl
@[simp high] theorem gsK_ft (s : St) (a r j) : gsK call s a r j false (.sc (.bool true)) = steps call (({ s with r := setR s.r j (.sc (.bool true)) } : St).put a.d .non) r := rfl
@[simp high] theorem gsK_ff (s : St) (a r j) : gsK call s a r j false (.sc (.bool false)) = stepsK call r (stepGo call { s with r := setR s.r j (.sc (.bool false)) } a) := rfl
@[simp] theorem gsK_n (s : St) (a r j w) : gsK call s a r j w .non = steps call (({ s with r := setR s.r j .non } : St).put a.d .non) r := rfl
@[simp] theorem gsK_b (s : St) (a r j w c) : gsK call s a r j w (.sc (.bool c)) = if c = true then gsK call s a r j w (.sc (.bool true)) else gsK call s a r j w (.sc (.bool false)) := by cases c <;> rfl
@[simp] theorem merge1 (e : EX) (k0 : Nat) (a0 b0 : PV) (l o) : (if p then some (e,St.mk [(k0,a0)] l o) else some (e,St.mk [(k0,b0)] l o)) = some (e,St.mk [(k0,if p then a0 else b0)] l o) := by split <;> rfl
@[simp] theorem merge2 (e : EX) (k0 k1 : Nat) (a0 a1 b0 b1 : PV) (l o) : (if p then some (e,St.mk [(k0,a0),(k1,a1)] l o) else some (e,St.mk [(k0,b0),(k1,b1)] l o)) = some (e,St.mk [(k0,if p then a0 else b0),(k1,if p then a1 else b1)] l o) := by split <;> rfl
@[simp] theorem merge3 (e : EX) (k0 k1 k2 : Nat) (a0 a1 a2 b0 b1 b2 : PV) (l o) : (if p then some (e,St.mk [(k0,a0),(k1,a1),(k2,a2)] l o) else some (e,St.mk [(k0,b0),(k1,b1),(k2,b2)] l o)) = some (e,St.mk [(k0,if p then a0 else b0),(k1,if p then a1 else b1),(k2,if p then a2 else b2)] l o) := by split <;> rfl
@[simp] theorem merge4 (e : EX) (k0 k1 k2 k3 : Nat) (a0 a1 a2 a3 b0 b1 b2 b3 : PV) (l o) : (if p then some (e,St.mk [(k0,a0),(k1,a1),(k2,a2),(k3,a3)] l o) else some (e,St.mk [(k0,b0),(k1,b1),(k2,b2),(k3,b3)] l o)) = some (e,St.mk [(k0,if p then a0 else b0),(k1,if p then a1 else b1),(k2,if p then a2 else b2),(k3,if p then a3 else b3)] l o) := by split <;> rfl
@[simp] theorem merge5 (e : EX) (k0 k1 k2 k3 k4 : Nat) (a0 a1 a2 a3 a4 b0 b1 b2 b3 b4 : PV) (l o) : (if p then some (e,St.mk [(k0,a0),(k1,a1),(k2,a2),(k3,a3),(k4,a4)] l o) else some (e,St.mk [(k0,b0),(k1,b1),(k2,b2),(k3,b3),(k4,b4)] l o)) = some (e,St.mk [(k0,if p then a0 else b0),(k1,if p then a1 else b1),(k2,if p then a2 else b2),(k3,if p then a3 else b3),(k4,if p then a4 else b4)] l o) := by split <;> rfl
@[simp] theorem merge6 (e : EX) (k0 k1 k2 k3 k4 k5 : Nat) (a0 a1 a2 a3 a4 a5 b0 b1 b2 b3 b4 b5 : PV) (l o) : (if p then some (e,St.mk [(k0,a0),(k1,a1),(k2,a2),(k3,a3),(k4,a4),(k5,a5)] l o) else some (e,St.mk [(k0,b0),(k1,b1),(k2,b2),(k3,b3),(k4,b4),(k5,b5)] l o)) = some (e,St.mk [(k0,if p then a0 else b0),(k1,if p then a1 else b1),(k2,if p then a2 else b2),(k3,if p then a3 else b3),(k4,if p then a4 else b4),(k5,if p then a5 else b5)] l o) := by split <;> rfl
@[simp] theorem merge7 (e : EX) (k0 k1 k2 k3 k4 k5 k6 : Nat) (a0 a1 a2 a3 a4 a5 a6 b0 b1 b2 b3 b4 b5 b6 : PV) (l o) : (if p then some (e,St.mk [(k0,a0),(k1,a1),(k2,a2),(k3,a3),(k4,a4),(k5,a5),(k6,a6)] l o) else some (e,St.mk [(k0,b0),(k1,b1),(k2,b2),(k3,b3),(k4,b4),(k5,b5),(k6,b6)] l o)) = some (e,St.mk [(k0,if p then a0 else b0),(k1,if p then a1 else b1),(k2,if p then a2 else b2),(k3,if p then a3 else b3),(k4,if p then a4 else b4),(k5,if p then a5 else b5),(k6,if p then a6 else b6)] l o) := by split <;> rfl
@[simp] theorem merge8 (e : EX) (k0 k1 k2 k3 k4 k5 k6 k7 : Nat) (a0 a1 a2 a3 a4 a5 a6 a7 b0 b1 b2 b3 b4 b5 b6 b7 : PV) (l o) : (if p then some (e,St.mk [(k0,a0),(k1,a1),(k2,a2),(k3,a3),(k4,a4),(k5,a5),(k6,a6),(k7,a7)] l o) else some (e,St.mk [(k0,b0),(k1,b1),(k2,b2),(k3,b3),(k4,b4),(k5,b5),(k6,b6),(k7,b7)] l o)) = some (e,St.mk [(k0,if p then a0 else b0),(k1,if p then a1 else b1),(k2,if p then a2 else b2),(k3,if p then a3 else b3),(k4,if p then a4 else b4),(k5,if p then a5 else b5),(k6,if p then a6 else b6),(k7,if p then a7 else b7)] l o) := by split <;> rfl
@[simp] theorem merge9 (e : EX) (k0 k1 k2 k3 k4 k5 k6 k7 k8 : Nat) (a0 a1 a2 a3 a4 a5 a6 a7 a8 b0 b1 b2 b3 b4 b5 b6 b7 b8 : PV) (l o) : (if p then some (e,St.mk [(k0,a0),(k1,a1),(k2,a2),(k3,a3),(k4,a4),(k5,a5),(k6,a6),(k7,a7),(k8,a8)] l o) else some (e,St.mk [(k0,b0),(k1,b1),(k2,b2),(k3,b3),(k4,b4),(k5,b5),(k6,b6),(k7,b7),(k8,b8)] l o)) = some (e,St.mk [(k0,if p then a0 else b0),(k1,if p then a1 else b1),(k2,if p then a2 else b2),(k3,if p then a3 else b3),(k4,if p then a4 else b4),(k5,if p then a5 else b5),(k6,if p then a6 else b6),(k7,if p then a7 else b7),(k8,if p then a8 else b8)] l o) := by split <;> rfl
@[simp] theorem merge10 (e : EX) (k0 k1 k2 k3 k4 k5 k6 k7 k8 k9 : Nat) (a0 a1 a2 a3 a4 a5 a6 a7 a8 a9 b0 b1 b2 b3 b4 b5 b6 b7 b8 b9 : PV) (l o) : (if p then some (e,St.mk [(k0,a0),(k1,a1),(k2,a2),(k3,a3),(k4,a4),(k5,a5),(k6,a6),(k7,a7),(k8,a8),(k9,a9)] l o) else some (e,St.mk [(k0,b0),(k1,b1),(k2,b2),(k3,b3),(k4,b4),(k5,b5),(k6,b6),(k7,b7),(k8,b8),(k9,b9)] l o)) = some (e,St.mk [(k0,if p then a0 else b0),(k1,if p then a1 else b1),(k2,if p then a2 else b2),(k3,if p then a3 else b3),(k4,if p then a4 else b4),(k5,if p then a5 else b5),(k6,if p then a6 else b6),(k7,if p then a7 else b7),(k8,if p then a8 else b8),(k9,if p then a9 else b9)] l o) := by split <;> rfl
@[simp] theorem merge11 (e : EX) (k0 k1 k2 k3 k4 k5 k6 k7 k8 k9 k10 : Nat) (a0 a1 a2 a3 a4 a5 a6 a7 a8 a9 a10 b0 b1 b2 b3 b4 b5 b6 b7 b8 b9 b10 : PV) (l o) : (if p then some (e,St.mk [(k0,a0),(k1,a1),(k2,a2),(k3,a3),(k4,a4),(k5,a5),(k6,a6),(k7,a7),(k8,a8),(k9,a9),(k10,a10)] l o) else some (e,St.mk [(k0,b0),(k1,b1),(k2,b2),(k3,b3),(k4,b4),(k5,b5),(k6,b6),(k7,b7),(k8,b8),(k9,b9),(k10,b10)] l o)) = some (e,St.mk [(k0,if p then a0 else b0),(k1,if p then a1 else b1),(k2,if p then a2 else b2),(k3,if p then a3 else b3),(k4,if p then a4 else b4),(k5,if p then a5 else b5),(k6,if p then a6 else b6),(k7,if p then a7 else b7),(k8,if p then a8 else b8),(k9,if p then a9 else b9),(k10,if p then a10 else b10)] l o) := by split <;> rfl
@[simp] theorem merge12 (e : EX) (k0 k1 k2 k3 k4 k5 k6 k7 k8 k9 k10 k11 : Nat) (a0 a1 a2 a3 a4 a5 a6 a7 a8 a9 a10 a11 b0 b1 b2 b3 b4 b5 b6 b7 b8 b9 b10 b11 : PV) (l o) : (if p then some (e,St.mk [(k0,a0),(k1,a1),(k2,a2),(k3,a3),(k4,a4),(k5,a5),(k6,a6),(k7,a7),(k8,a8),(k9,a9),(k10,a10),(k11,a11)] l o) else some (e,St.mk [(k0,b0),(k1,b1),(k2,b2),(k3,b3),(k4,b4),(k5,b5),(k6,b6),(k7,b7),(k8,b8),(k9,b9),(k10,b10),(k11,b11)] l o)) = some (e,St.mk [(k0,if p then a0 else b0),(k1,if p then a1 else b1),(k2,if p then a2 else b2),(k3,if p then a3 else b3),(k4,if p then a4 else b4),(k5,if p then a5 else b5),(k6,if p then a6 else b6),(k7,if p then a7 else b7),(k8,if p then a8 else b8),(k9,if p then a9 else b9),(k10,if p then a10 else b10),(k11,if p then a11 else b11)] l o) := by split <;> rfl
@[simp] theorem merge13 (e : EX) (k0 k1 k2 k3 k4 k5 k6 k7 k8 k9 k10 k11 k12 : Nat) (a0 a1 a2 a3 a4 a5 a6 a7 a8 a9 a10 a11 a12 b0 b1 b2 b3 b4 b5 b6 b7 b8 b9 b10 b11 b12 : PV) (l o) : (if p then some (e,St.mk [(k0,a0),(k1,a1),(k2,a2),(k3,a3),(k4,a4),(k5,a5),(k6,a6),(k7,a7),(k8,a8),(k9,a9),(k10,a10),(k11,a11),(k12,a12)] l o) else some (e,St.mk [(k0,b0),(k1,b1),(k2,b2),(k3,b3),(k4,b4),(k5,b5),(k6,b6),(k7,b7),(k8,b8),(k9,b9),(k10,b10),(k11,b11),(k12,b12)] l o)) = some (e,St.mk [(k0,if p then a0 else b0),(k1,if p then a1 else b1),(k2,if p then a2 else b2),(k3,if p then a3 else b3),(k4,if p then a4 else b4),(k5,if p then a5 else b5),(k6,if p then a6 else b6),(k7,if p then a7 else b7),(k8,if p then a8 else b8),(k9,if p then a9 else b9),(k10,if p then a10 else b10),(k11,if p then a11 else b11),(k12,if p then a12 else b12)] l o) := by split <;> rfl
@[simp] theorem merge14 (e : EX) (k0 k1 k2 k3 k4 k5 k6 k7 k8 k9 k10 k11 k12 k13 : Nat) (a0 a1 a2 a3 a4 a5 a6 a7 a8 a9 a10 a11 a12 a13 b0 b1 b2 b3 b4 b5 b6 b7 b8 b9 b10 b11 b12 b13 : PV) (l o) : (if p then some (e,St.mk [(k0,a0),(k1,a1),(k2,a2),(k3,a3),(k4,a4),(k5,a5),(k6,a6),(k7,a7),(k8,a8),(k9,a9),(k10,a10),(k11,a11),(k12,a12),(k13,a13)] l o) else some (e,St.mk [(k0,b0),(k1,b1),(k2,b2),(k3,b3),(k4,b4),(k5,b5),(k6,b6),(k7,b7),(k8,b8),(k9,b9),(k10,b10),(k11,b11),(k12,b12),(k13,b13)] l o)) = some (e,St.mk [(k0,if p then a0 else b0),(k1,if p then a1 else b1),(k2,if p then a2 else b2),(k3,if p then a3 else b3),(k4,if p then a4 else b4),(k5,if p then a5 else b5),(k6,if p then a6 else b6),(k7,if p then a7 else b7),(k8,if p then a8 else b8),(k9,if p then a9 else b9),(k10,if p then a10 else b10),(k11,if p then a11 else b11),(k12,if p then a12 else b12),(k13,if p then a13 else b13)] l o) := by split <;> rfl
@[simp] theorem ifb (a b : Bool) : (if p then PV.sc (.bool a) else PV.sc (.bool b)) = PV.sc (.bool (if p then a else b)) := by split <;> rfl
@[simp] theorem ifn (k : IntKind) (a b : Int) : (if p then PV.sc (.int k a) else PV.sc (.int k b)) = PV.sc (.int k (if p then a else b)) := by split <;> rfl
noncomputable def bodyK (res : List RV) : Option (EX × St) → Option (PV × Stack)
  | some (.ret,s) => finish res s
  | some (.normal,s) => finish res s
  | _ => none
@[simp] theorem bodyK_r (res) (s : St) : bodyK res (some (.ret,s)) = finish res s := rfl
@[simp] theorem bodyK_n (res) (s : St) : bodyK res (some (.normal,s)) = finish res s := rfl
@[simp] theorem bodyK_o (res) : bodyK res none = none := rfl
@[simp] theorem bodyK_i (res) (x y) : bodyK res (if p then x else y) = if p then bodyK res x else bodyK res y := by split <;> rfl
theorem body1_eq {G : Prog} {f : Nat} {af : AF} (args o) (hp : G.prim f = none) (hc : G.code f = some af) : body1 G call lp f args o = bodyK af.res (run call lp af.body ⟨pars 0 args,[],o⟩) := by
  simp only [body1,hp,hc]
  rcases run call lp af.body ⟨pars 0 args,[],o⟩ with _ | ⟨e,s⟩
  · rfl
  · cases e <;> rfl
noncomputable def loopK (lp : List Nat → List Nat → AC → St → Option (EX × St)) (lv ob : List Nat) (a : AC) : Option (EX × St) → Option (EX × St)
  | some (.normal,s') => lp lv ob a s'
  | r => r
@[simp] theorem loopK_n (lv ob a) (s : St) : loopK lp lv ob a (some (.normal,s)) = lp lv ob a s := rfl
@[simp] theorem loopK_r (lv ob a) (s : St) : loopK lp lv ob a (some (.ret,s)) = some (.ret,s) := rfl
@[simp] theorem loopK_e (lv ob a n) (s : St) : loopK lp lv ob a (some (.exit n,s)) = some (.exit n,s) := rfl
@[simp] theorem loopK_o (lv ob a) : loopK lp lv ob a none = none := rfl
@[simp] theorem loopK_i (lv ob a) (x y) : loopK lp lv ob a (if p then x else y) = if p then loopK lp lv ob a x else loopK lp lv ob a y := by split <;> rfl
noncomputable def loop0 (call : CallF) (lp : List Nat → List Nat → AC → St → Option (EX × St)) (lv ob : List Nat) (a : AC) : Option (EX × St) → Option (EX × St)
  | some (_,s0) => loopK lp lv ob a (run call lp a s0)
  | none => none
@[simp] theorem loop0_s (lv ob a e) (s : St) : loop0 call lp lv ob a (some (e,s)) = loopK lp lv ob a (run call lp a s) := rfl
@[simp] theorem loop1_k (lv ob a) (s : St) : loop1 call lp lv ob a s = loop0 call lp lv ob a (fin (s.keep lv ob)) := by
  simp only [loop1]
  rcases fin (s.keep lv ob) with _ | ⟨e,s0⟩
  · rfl
  · simp only [loop0]
    rcases run call lp a s0 with _ | ⟨e,s'⟩
    · rfl
    · cases e <;> rfl
end
attribute [simp] peekOK nestStep nestCall isSc
attribute [simp] pars St.ev getR St.put St.get St.sets St.set setO getO fin St.keep okObjs known knowns finish resVs resV single expo expoE expoEs expos expoC expo1 nodupI stepCall snapA snapE snap snaps rowIdA rowIdE rowId rowIds callBy noRef noRefs atLvl atLvls land impo impoE impoEs impos impo1 freshAll nodupId frzs thaws noShare noShares takeC OB.elem PV.cells sure cellP plain plains OB.isBox upTo upTos putC packE packEs pack1 packs live ib fal fals srcOf
end Go.Am
end
section
/- What a row's argument reads as. -/
set_option linter.unusedSimpArgs false
set_option linter.unusedVariables false
namespace Go.Am
open Go.RowKit
/-- The context in which everything that is there is frozen. -/
def cAll (w : World) : Ctx := ⟨hp w, fun _ => ⟨0, none, 0⟩, fun _ => none⟩
theorem cAll_ok (w : World) : StOK (cAll w) (gt []) (hp w) (fun _ => []) := by
  have hg : ∀ id ob, gt [] id = some ob → False := fun id ob h => by rw [gt_nil] at h; cases h
  refine ⟨fun id ob h => (hg id ob h).elim, fun id ob h => (hg id ob h).elim, fun id id' ob ob' h => (hg id ob h).elim, fun id ob h => (hg id ob h).elim, ?_, fun _ _ _ => rfl⟩
  rintro b o (h | h)
  · exact h
  · cases h
def isAg (P : Program) (t : TypeId) : Bool := match P.underlying t with | some (.struct _) | some (.array _ _) => true | _ => false
def mkE (P : Program) (e : TypeId) (cs : List PV) : PV := if isAg P e then .agg cs else cs.headD .undef
def TyF (r : TypeId → List PV → Prop) : List Field → List PV → Prop
  | [], xs => xs = []
  | f :: fs, xs => ∃ a b, xs = a ++ b ∧ r f.type a ∧ TyF r fs b
/-- Cells of a type. -/
def Ty (P : Program) : Nat → TypeId → List PV → Prop
  | 0, _, _ => False
  | n + 1, t, xs => match P.underlying t with
    | some .bool => ∃ b, xs = [.b b]
    | some (.int k) => ∃ m, xs = [.sc (.int k m)] ∧ (Lit.int k m).wf = true
    | some .string => ∃ s : ByteArray, xs = [.s s] ∧ s.size ≤ maxLen
    | some (.slice e) => ∃ css : List (List PV), xs = [.sl false (P.cellsOf e) (css.map (mkE P e))] ∧ css.length ≤ maxLen ∧ ∀ cs ∈ css, Ty P n e cs
    | some (.struct fs) => TyF (Ty P n) fs.toList xs
    | _ => False
def lay (P : Program) : Nat → List Field → Option Nat
  | o, [] => some o
  | o, f :: r => if f.offset = o then lay P (o + P.cellsOf f.type) r else none
/-- Types that data alone are made of. -/
def closedB (P : Program) (Ts : List TypeId) : Bool := Ts.all fun t => match P.underlying t with
  | some .bool | some (.int _) | some .string => P.cellsOf t == 1
  | some (.slice e) => P.cellsOf t == 1 && Ts.contains e && decide (0 < P.cellsOf e)
  | some (.struct fs) => lay P 0 fs.toList == some (P.cellsOf t) && fs.toList.all (fun f => Ts.contains f.type)
  | _ => false
section
variable {P : Program} {H : Type} {enc : TypeId × Value → H} {w : World}
theorem mapM_range {α : Type} {f : Nat → Option α} : ∀ {n o : Nat} {xs : List α}, (List.range' o n).mapM f = some xs → xs.length = n ∧ ∀ i, i < n → ∃ x, xs[i]? = some x ∧ f (o + i) = some x
  | 0, o, xs, h => by
    simp at h
    subst h
    exact ⟨rfl, fun i hi => by omega⟩
  | n + 1, o, xs, h => by
    simp only [List.range'_succ, List.mapM_cons, Option.pure_def, Option.bind_eq_bind] at h
    obtain ⟨x, h1, h2⟩ := Option.bind_eq_some_iff.1 h
    obtain ⟨ys, h3, h4⟩ := Option.bind_eq_some_iff.1 h2
    simp only [Option.some.injEq] at h4
    subst h4
    obtain ⟨h5, h6⟩ := mapM_range h3
    refine ⟨by simp [h5], fun i hi => ?_⟩
    cases i with
    | zero => exact ⟨x, by simp, by simpa using h1⟩
    | succ i =>
      obtain ⟨y, h7, h8⟩ := h6 i (by omega)
      exact ⟨y, by simpa using h7, by rw [← h8]; congr 1; omega⟩
theorem mkE_R {c : Ctx} {S : Sto} {h : Hp} {e : TypeId} {xs : List PV} {vs : List Value} (hl : isAg P e = true ∨ xs.length = 1) (hc : xs.all cellP = true) (r : Rs c S h xs vs []) :
    R c S h (mkE P e xs) vs [] ∧ (mkE P e xs).cells = xs ∧ flatE (mkE P e xs) = true ∧ tree (mkE P e xs) = trees xs := by
  unfold mkE
  by_cases ha : isAg P e = true
  · rw [if_pos ha]
    exact ⟨⟨hc, r⟩, rfl, by simpa [flatE] using hc, rfl⟩
  · rw [if_neg ha]
    have hl := hl.resolve_left ha
    obtain ⟨x, rfl⟩ : ∃ x, xs = [x] := by
      cases xs with
      | nil => simp at hl
      | cons x l => cases l with | nil => exact ⟨x, rfl⟩ | cons _ _ => simp at hl
    obtain ⟨v1, v2, f1, f2, rfl, hf, r1, r2⟩ := r
    simp only [Rs] at r2
    obtain ⟨rfl, rfl⟩ := r2
    simp only [List.append_nil] at hf
    subst hf
    simp only [List.headD_cons, List.append_nil]
    simp only [List.all_cons, List.all_nil, Bool.and_true] at hc
    refine ⟨r1, ?_, ?_, ?_⟩ <;> cases x <;> simp [cellP, flatE, PV.cells, trees] at hc ⊢
def RdOK (P : Program) (w : World) (n : Nat) (t : TypeId) (cs : List Value) (xs : List PV) : Prop := Ty P n t xs ∧ Rs (cAll w) (gt []) (hp w) xs cs [] ∧ xs.all cellP = true ∧ trees xs = true ∧ xs.length = P.cellsOf t
theorem addr_add (a : Addr) (m n : Nat) : (a.add m).add n = a.add (m + n) := by
  unfold Addr.add
  by_cases hm : m = 0 <;> by_cases hn : n = 0 <;> simp [hm, hn, Nat.add_assoc]
theorem read_elems {n : Nat} {e : TypeId} {a : Addr} {base : Nat} {q : List Value → Option (DataW H × List MemPlace)} (hel : isAg P e = true ∨ P.cellsOf e = 1) (ih : ∀ cs d ps, q cs = some (d, ps) → ∃ xs, RdOK P w n e cs xs) :
    ∀ {m o : Nat} {elems : List (DataW H × List MemPlace)}, (List.range' o m).mapM (fun i => (w.cells? base (a.add (i * P.cellsOf e)) (P.cellsOf e)).bind q) = some elems →
      ∃ (css : List (List PV)) (ws : List Value), css.length = m ∧ (∀ c ∈ css, Ty P n e c ∧ c.length = P.cellsOf e ∧ flatE (mkE P e c) = true ∧ (mkE P e c).cells = c) ∧ Rs (cAll w) (gt []) (hp w) (css.map (mkE P e)) ws [] ∧ trees (css.map (mkE P e)) = true ∧ ws.length = m * P.cellsOf e ∧
        ∀ j u, ws[j]? = some u → w.cell? (a.add (o * P.cellsOf e + j)) = some u
  | 0, o, elems, h => ⟨[], [], rfl, fun c hc => (by cases hc), ⟨rfl, rfl⟩, rfl, by simp, fun j u hj => by simp at hj⟩
  | m + 1, o, elems, h => by
    simp only [List.range'_succ, List.mapM_cons, Option.pure_def, Option.bind_eq_bind] at h
    obtain ⟨x, h1, h2⟩ := Option.bind_eq_some_iff.1 h
    obtain ⟨ys, h3, h4⟩ := Option.bind_eq_some_iff.1 h2
    obtain ⟨cells, h5, h6⟩ := Option.bind_eq_some_iff.1 h1
    obtain ⟨d, ps⟩ := x
    obtain ⟨xs, g1, g2, g3, g4, g5⟩ := ih cells d ps h6
    obtain ⟨css, ws, k1, k2, k3, k4, k5, k6⟩ := read_elems hel ih h3
    have hel' : isAg P e = true ∨ xs.length = 1 := hel.imp (fun h => h) (fun h => by rw [g5, h])
    obtain ⟨e1, e2, e3, e4⟩ := mkE_R (P := P) (e := e) hel' g3 g2
    have hcl : cells.length = P.cellsOf e := by rw [(Rs_cells_len g3 g2).1, g5]
    refine ⟨xs :: css, cells ++ ws, by simp [k1], fun c hc => ?_, ⟨cells, ws, [], [], rfl, rfl, e1, k3⟩, by simp [trees, e4, g4, k4], by simp [hcl, k5, Nat.add_mul]; omega, fun j u hj => ?_⟩
    · rcases List.mem_cons.1 hc with rfl | hc
      · exact ⟨g1, g5, e3, e2⟩
      · exact k2 c hc
    · by_cases hjc : j < cells.length
      · rw [List.getElem?_append_left hjc] at hj
        unfold World.cells? at h5
        split at h5
        · rw [List.range_eq_range'] at h5
          obtain ⟨_, h8⟩ := mapM_range h5
          obtain ⟨v, h9, h10⟩ := h8 j (by omega)
          rw [hj] at h9
          simp only [Option.some.injEq] at h9
          subst h9
          rw [addr_add, Nat.zero_add] at h10
          exact h10
        · cases h5
      · rw [List.getElem?_append_right (by omega)] at hj
        have := k6 _ _ hj
        rw [← this]
        congr 2
        rw [hcl, Nat.add_mul]
        omega
theorem read_fields {n : Nat} {cs : List Value} {tot : Nat} {q : TypeId → List Value → Option (DataW H × List MemPlace)} (htot : cs.length = tot) :
    ∀ {fl : List Field} {o : Nat} {ys : List (DataW H × List MemPlace)}, (∀ f ∈ fl, ∀ cs d ps, q f.type cs = some (d, ps) → ∃ xs, RdOK P w n f.type cs xs) → lay P o fl = some tot → fl.mapM (fun f => q f.type ((cs.drop f.offset).take (P.cellsOf f.type))) = some ys →
      ∃ xs, TyF (Ty P n) fl xs ∧ Rs (cAll w) (gt []) (hp w) xs (cs.drop o) [] ∧ xs.all cellP = true ∧ trees xs = true ∧ xs.length + o = tot
  | [], o, ys, _, hl, h => by
    simp only [lay, Option.some.injEq] at hl
    subst hl
    exact ⟨[], rfl, ⟨List.drop_eq_nil_of_le (by omega), rfl⟩, rfl, rfl, by simp⟩
  | f :: fl, o, ys, ih, hl, h => by
    simp only [lay] at hl
    split at hl
    · rename_i ho
      simp only [List.mapM_cons, Option.pure_def, Option.bind_eq_bind] at h
      obtain ⟨x, h1, h2⟩ := Option.bind_eq_some_iff.1 h
      obtain ⟨zs, h3, h4⟩ := Option.bind_eq_some_iff.1 h2
      obtain ⟨d, ps⟩ := x
      rw [ho] at h1
      obtain ⟨xs, g1, g2, g3, g4, g5⟩ := ih f List.mem_cons_self _ d ps h1
      obtain ⟨xs2, k1, k2, k3, k4, k5⟩ := read_fields htot (fun f hf => ih f (List.mem_cons_of_mem _ hf)) hl h3
      refine ⟨xs ++ xs2, ⟨xs, xs2, rfl, g1, k1⟩, ?_, by simp [g3, k3], trees_append g4 k4, by simp [g5]; omega⟩
      rw [Rs_append]
      refine ⟨(cs.drop o).take (P.cellsOf f.type), cs.drop (o + P.cellsOf f.type), [], [], ?_, rfl, g2, k2⟩
      rw [← List.drop_drop, List.take_append_drop]
    · cases hl
/-- What reads as data of a plain type stands there as a tree. -/
theorem read {Ts : List TypeId} (hc : closedB P Ts = true) {base : Nat} {sp : Nat → Bool} {held : Bool} : ∀ (fuel : Nat) (t : TypeId) (cs : List Value) (d : DataW H) (ps : List MemPlace), t ∈ Ts → DataW.trod enc P w base sp held fuel t cs = some (d, ps) → ∃ xs, RdOK P w fuel t cs xs
  | 0, _, _, _, _, _, h => by simp [DataW.trod] at h
  | fuel + 1, t, cs, d, ps, ht, h => by
    have hcl := List.all_eq_true.1 hc t ht
    cases hu : P.underlying t with
    | none => rw [hu] at hcl; cases hcl
    | some ud =>
      rw [hu] at hcl
      cases ud <;> simp only at hcl <;> try (cases hcl; done)
      case bool =>
        have hc1 := eq_of_beq hcl
        rcases cs with _ | ⟨v, _ | ⟨u, r⟩⟩
        · simp [DataW.trod, hu] at h
        · cases v <;> simp [DataW.trod, hu] at h
          rename_i b
          exact ⟨[.b b], by simp only [Ty, hu]; exact ⟨_, rfl⟩, ⟨[_], [], [], [], rfl, rfl, ⟨rfl, rfl, rfl⟩, rfl, rfl⟩, rfl, rfl, by simp [hc1]⟩
        · simp [DataW.trod, hu] at h
      case int k =>
        have hc1 := eq_of_beq hcl
        rcases cs with _ | ⟨v, _ | ⟨u, r⟩⟩
        · simp [DataW.trod, hu] at h
        · cases v <;> simp [DataW.trod, hu] at h
          rename_i k' m
          obtain ⟨⟨rfl, hw⟩, _⟩ := h
          exact ⟨[.sc (.int _ m)], by simp only [Ty, hu]; exact ⟨_, rfl, hw⟩, ⟨[_], [], [], [], rfl, rfl, ⟨rfl, rfl, rfl⟩, rfl, rfl⟩, rfl, rfl, by simp [hc1]⟩
        · simp [DataW.trod, hu] at h
      case string =>
        have hc1 := eq_of_beq hcl
        rcases cs with _ | ⟨v, _ | ⟨u, r⟩⟩
        · simp [DataW.trod, hu] at h
        · cases v <;> simp [DataW.trod, hu] at h
          rename_i b
          exact ⟨[.s b], by simp only [Ty, hu]; exact ⟨_, rfl, h.1⟩, ⟨[_], [], [], [], rfl, rfl, ⟨rfl, rfl, rfl⟩, rfl, rfl⟩, rfl, rfl, by simp [hc1]⟩
        · simp [DataW.trod, hu] at h
      case slice e =>
        simp only [Bool.and_eq_true, decide_eq_true_eq] at hcl
        obtain ⟨⟨hc1, hc2⟩, hc3⟩ := hcl
        have hc1 := eq_of_beq hc1
        have he : e ∈ Ts := by simpa using hc2
        have hel : isAg P e = true ∨ P.cellsOf e = 1 := by
          have := List.all_eq_true.1 hc e he
          unfold isAg
          cases hue : P.underlying e with
          | none => rw [hue] at this; cases this
          | some ue => cases ue <;> rw [hue] at this <;> simp only at this <;> first | (cases this; done) | exact .inl rfl | exact .inr (eq_of_beq this) | (simp only [Bool.and_eq_true] at this; exact .inr (eq_of_beq this.1.1))
        have isel : (∃ v, cs = [v]) ∨ ∀ v, cs ≠ [v] := by
          by_cases h : ∃ v, cs = [v]
          · exact .inl h
          · exact .inr fun v hv => h ⟨v, hv⟩
        rcases cs with _ | ⟨v, _ | ⟨u, r⟩⟩
        · simp [DataW.trod, hu] at h
        · cases v <;> try (simp [DataW.trod, hu] at h; done)
          rename_i A len cap
          have empty : len = 0 → cap = 0 ∨ True → ∃ xs, RdOK P w (fuel + 1) t [.slice A len cap] xs := by
            rintro rfl _
            refine ⟨[.sl false (P.cellsOf e) []], by simp only [Ty, hu]; exact ⟨[], rfl, Nat.zero_le _, fun c hc => (by cases hc)⟩, ⟨[_], [], [], [], rfl, rfl, ⟨rfl, fun x hx => (by cases hx), rfl, A, cap, rfl, .inl rfl⟩, rfl, rfl⟩, rfl, rfl, by simp [hc1]⟩
          by_cases hl0 : len = 0
          · exact empty hl0 (.inr trivial)
          · cases A with
            | none =>
              exfalso
              cases len with
              | zero => exact hl0 rfl
              | succ m => simp [DataW.trod, hu] at h
            | some a =>
              have h' : len ≤ cap ∧ cap ≤ maxLen ∧ ∃ elems, (List.range len).mapM (fun i => (w.cells? base (a.add (i * P.cellsOf e)) (P.cellsOf e)).bind (DataW.trod enc P w base sp held fuel e)) = some elems := by
                simp only [DataW.trod, hu] at h
                split at h
                · rename_i hb
                  obtain ⟨elems, h1, _⟩ := Option.bind_eq_some_iff.1 h
                  exact ⟨hb.2.1, hb.2.2, elems, h1⟩
                · cases h
              obtain ⟨h1, h2, elems, h3⟩ := h'
              rw [List.range_eq_range'] at h3
              obtain ⟨css, ws, k1, k2, k3, k4, k5, k6⟩ := read_elems (n := fuel) hel (fun cs d ps hq => read hc fuel e cs d ps he hq) h3
              simp only [Nat.zero_mul, Nat.zero_add] at k6
              -- the block
              have hpos : 0 < ws.length := by rw [k5]; exact Nat.mul_pos (by omega) hc3
              have hc0 := k6 0 ws[0] (List.getElem?_eq_getElem hpos)
              have hblk : ∃ cur et fr, hp w a.block = some (.cells cur et fr) ∧ a.spot = none := by
                have ha0 : a.add 0 = a := by simp [Addr.add]
                rw [ha0] at hc0
                unfold World.cell? at hc0
                split at hc0
                · rename_i cur et fr hh
                  split at hc0
                  · cases hc0
                  · rename_i hsp
                    exact ⟨cur, et, fr, hh, by simpa using hsp⟩
                · cases hc0
              obtain ⟨cur, et, fr, hb, hsp⟩ := hblk
              have hcells : ∀ j u, ws[j]? = some u → cur.toList[a.off + j]? = some u := by
                intro j u hj
                have := k6 j u hj
                have hadd : a.add j = ⟨a.block, a.off + j, none⟩ := by
                  unfold Addr.add
                  split
                  · rename_i h0; subst h0; cases a; simp_all
                  · rfl
                rw [hadd, cell_of_block hb] at this
                simpa using this
              have htake : (cur.toList.drop a.off).take (css.length * P.cellsOf e) = ws := by
                apply List.ext_getElem?
                intro j
                rw [List.getElem?_take]
                by_cases hj : j < css.length * P.cellsOf e
                · rw [if_pos hj, List.getElem?_drop]
                  have hj2 : j < ws.length := by rw [k5, ← k1]; exact hj
                  rw [hcells j ws[j] (List.getElem?_eq_getElem hj2), List.getElem?_eq_getElem hj2]
                · rw [if_neg hj, List.getElem?_eq_none (by rw [k5, ← k1]; omega)]
              refine ⟨[.sl false (P.cellsOf e) (css.map (mkE P e))], by simp only [Ty, hu]; exact ⟨css, rfl, by omega, fun c hc => (k2 c hc).1⟩, ⟨[_], [], [], [], rfl, rfl, ⟨k4, fun x hx => ?_, rfl, some a, cap, by simp [k1], .inr ⟨a.block, a.off, cur, et, fr, ws, ?_, by rw [List.length_map, k1]; exact h1, hb, k3, ?_⟩⟩, rfl, rfl⟩, rfl, by simpa [trees, tree] using k4, by simp [hc1]⟩
              · obtain ⟨c, hcm, rfl⟩ := List.mem_map.1 hx
                obtain ⟨q1, q2, q3, q4⟩ := k2 c hcm
                exact ⟨by rw [q4, q2], q3⟩
              · cases a; simp_all
              · rw [List.length_map]; exact htake
        · simp [DataW.trod, hu] at h
      case struct fs =>
        simp only [Bool.and_eq_true] at hcl
        obtain ⟨hc1, hc2⟩ := hcl
        have hc1 := eq_of_beq hc1
        have h' : cs.length = P.cellsOf t ∧ ∃ ys, fs.toList.mapM (fun f => DataW.trod enc P w base sp held fuel f.type ((cs.drop f.offset).take (P.cellsOf f.type))) = some ys := by
          have h2 : DataW.trod enc P w base sp held (fuel + 1) t cs = (if cs.length = P.cellsOf t then (fs.toList.mapM fun f => DataW.trod enc P w base sp held fuel f.type ((cs.drop f.offset).take (P.cellsOf f.type))).map fun xs => (.agg (xs.map (·.1)), xs.flatMap (·.2)) else none) := by
            simp only [DataW.trod, hu]
          rw [h2] at h
          split at h
          · rename_i hl
            obtain ⟨ys, h3, _⟩ := Option.map_eq_some_iff.1 h
            exact ⟨hl, ys, h3⟩
          · cases h
        obtain ⟨hl, ys, h3⟩ := h'
        obtain ⟨xs, k1, k2, k3, k4, k5⟩ := read_fields (n := fuel) (q := DataW.trod enc P w base sp held fuel) hl (fun f hf cs d ps hq => read hc fuel f.type cs d ps (by have := List.all_eq_true.1 hc2 f hf; simpa using this) hq) hc1 h3
        exact ⟨xs, by simp only [Ty, hu]; exact k1, by simpa using k2, k3, k4, by simpa using k5⟩
end
end Go.Am
end
section
/- A law that the machine finds true holds. -/
set_option linter.unusedSimpArgs false
set_option linter.unusedVariables false
namespace Go.Am
open Go.RowKit
theorem keptBut_same {W W' : World} (ho : W'.os = W.os) (hu : W'.output = W.output) (hb : ∀ b o,hp W b = some o → hp W' b = some o) (may : MemPlace → Prop) : W.keptBut W' may := by
  refine ⟨ho,hu,fun i hi => ?_⟩
  have h1 : W.heap[i]? = some W.heap[i] := Array.getElem?_eq_getElem hi
  have h2 := hb i _ h1
  simp only [hp] at h2
  rw [h1,h2]
  cases W.heap[i] <;> simp
theorem sameAt_of {W W' : World} (hb : ∀ b o,hp W b = some o → hp W' b = some o) {p : MemPlace} (hlt : p.block < W.heap.size) : W.sameAt W' p := by
  have h1 : W.heap[p.block]? = some W.heap[p.block] := Array.getElem?_eq_getElem hlt
  have h2 := hb p.block _ h1
  simp only [hp] at h2
  cases p with
  | cell b o => exact World.cell?_of_block (w := W) (h2.trans h1.symm)
  | map b => exact h2.trans h1.symm
theorem post_kept {H : Type} {enc : TypeId × Value → H} {P : Program} {f : Func} {s : ChangeSpec} {apart fresh handsOn again : Bool} {W W' : World} {args : Array Value} {v : Value} {ds gs : List (DataW H)} {before pa pv : List MemPlace}
    (hW : DataW.Whole enc P f.params.toList s.vars apart W args.toList ds gs before)
    (hres : ∀ (b : Nat) (sp : Nat → Bool) (hd : Bool),DataW.TrodAll enc P W' b sp hd f.resultTypes.toList (v.resultList f.resultTypes.size) (s.fn H (ds ++ gs)).results [])
    (hargs : ∀ sp : Nat → Bool,(∀ p ∈ before,sp p.block = true) → DataW.TrodAll enc P W' 0 sp true f.params.toList args.toList (s.fn H (ds ++ gs)).args pa)
    (hvars : ∀ sp : Nat → Bool,(∀ p ∈ before,sp p.block = true) → DataW.TrodVars enc P W' sp s.vars (s.fn H (ds ++ gs)).vars pv)
    (hps : before = pa ++ pv) (hk : W.keptBut W' (· ∈ before)) (hfz : ∀ a,a.block < W.heap.size → W'.frozen? a = W.frozen? a)
    (hok : ∀ (j : Nat) (t : TypeId) (r : Value),f.resultTypes[j]? = some t → (v.resultList f.resultTypes.size)[j]? = some r → Value.okWide P W' .any 0 t r) :
    s.post enc P f apart fresh handsOn again W args v W' := by
  subst hps
  have hold : ∀ p ∈ pa ++ pv,(fun b => decide (b < W.heap.size)) p.block = true := fun p hp => by simpa using hW.lt p hp
  have hlt := hW.lt
  obtain ⟨_,_,_,_,_,hz,hn⟩ := id hW
  refine ⟨ds,gs,pa ++ pv,[],pa,pv,hW,hres _ _ _,hargs _ hold,hvars _ hold,World.keptBut_mono (fun p hp => ⟨hp,.inr (List.mem_append.1 hp)⟩) hk,fun _ => ⟨hok,_,_,([] ++ pa) ++ pv,⟨[] ++ pa,pv,ChangeShapes.trodAll_append (hargs _ (fun _ _ => rfl)) (hres _ _ _),hvars _ (fun _ _ => rfl),rfl,fun b off hp => ?_,fun ha => by simpa using hn ha⟩,fun p hp _ => by simpa using hp⟩⟩
  have hp' : MemPlace.cell b off ∈ pa ++ pv := by simpa using hp
  rw [hfz _ (hlt _ hp')]
  exact hz b off hp'
def TrueEnd (W : World) : Ending → World → Prop := fun e W' => e = .returned (.bool true) ∧ W'.os = W.os ∧ W'.output = W.output ∧ (∀ b o,hp W b = some o → hp W' b = some o) ∧ ∀ a,a.block < W.heap.size → W'.frozen? a = W.frozen? a
theorem law_calls {P : Program} {G : Prog} (pg : ProgOK P G) {f : Nat} {args : List PV} {vals : List Value} {W : World} {o' : Stack} (hr : RVals (cAll W) (gt []) (hp W) args vals) (e : callI G f args [] = some (.b true,o')) : Calls P f vals.toArray W (TrueEnd W) := by
  obtain ⟨_,h⟩ := sound pg e
  refine Calls.mono (h (cAll W) _ W vals (cAll_ok W) hr) ?_
  rintro e W' ⟨_,v,c',fp',f',rfl,hg,hok,ha,_,hret⟩
  have hv : v = .bool true := by
    have h : [v] = [Value.bool true] := hret.2.1
    simpa using h
  subst hv
  exact ⟨rfl,hg.os,hg.output,fun b o hb => hok.okF b o (.inl (ha.F b o hb)),hg.fz⟩
theorem read_agg {P : Program} {H : Type} {enc : TypeId × Value → H} {W : World} {Ts : List TypeId} (hc : closedB P Ts = true) {base : Nat} {sp : Nat → Bool} {held : Bool} {t : TypeId} {v : Value} {d : DataW H} {ps : List MemPlace} (ht : t ∈ Ts)
    (h : DataW.Trod enc P W base sp held t v d ps) : ∃ n xs,RdOK P W n t v.cells.toList xs := by
  obtain ⟨n,hn⟩ := h
  obtain ⟨xs,hx⟩ := read hc n t _ d ps ht hn
  exact ⟨n,xs,hx⟩
def isCell (P : Program) (t : TypeId) : Bool := match P.underlying t with | some .bool | some (.int _) | some .string | some (.slice _) => true | _ => false
theorem arg_cell {P : Program} {W : World} {base n : Nat} {t : TypeId} {v : Value} {xs : List PV} (hw : Value.okWide P W .any base t v) (ha : isCell P t = true) (hl : P.cellsOf t = 1) (hx : RdOK P W n t v.cells.toList xs) : ∃ x,xs = [x] ∧ RVal (cAll W) (gt []) (hp W) x v := by
  obtain ⟨_,h2,h3,_,h5⟩ := hx
  rw [hl] at h5
  obtain ⟨x,rfl⟩ := List.length_eq_one_iff.1 h5
  refine ⟨x,rfl, ?_⟩
  have hv : v.cells.toList = [v] := by
    unfold isCell at ha
    unfold Value.okWide at hw
    cases v <;> try rfl
    split at ha <;> rename_i hu <;> first | cases ha; done | (rw [hu] at hw; simp [Cell.okWide,Cell.ok,hu] at hw)
  rw [hv] at h2
  simp only [List.all_cons,List.all_nil,Bool.and_true] at h3
  obtain ⟨v1,v2,f1,f2,e1,e2,r,r2⟩ := h2
  obtain ⟨rfl,rfl⟩ := r2
  simp only [List.append_nil] at e1 e2
  subst e1
  rw [← e2] at r
  cases x <;> first | trivial | exact r | (simp [cellP] at h3)
theorem trod_bool {P : Program} {H : Type} {enc : TypeId × Value → H} {w : World} {base : Nat} {sp : Nat → Bool} {hd : Bool} {t : TypeId} (h : P.underlying t = some .bool) (b : Bool) : DataW.Trod enc P w base sp hd t (.bool b) (.lit (.bool b)) [] := ⟨1,by simp [DataW.trod,h,Value.cells]⟩
theorem okWide_bool' {P : Program} {w : World} {base : Nat} {t : TypeId} (h : P.underlying t = some .bool) (b : Bool) : Value.okWide P w .any base t (.bool b) := by
  simp [Value.okWide,h,Cell.okWide,Cell.ok]
end Go.Am
end
section
/- Objects of outer frames. -/
set_option linter.unusedSimpArgs false
set_option linter.unusedVariables false
namespace Go.Am
def getS (o : Stack) (id : Id) : Option OB := (o[id.1]?).bind (getO · id.2)
def setS (o : Stack) (id : Id) (ob : OB) : Stack := o.modify id.1 (setO · id.2 ob)
theorem setS_len (o : Stack) (id : Id) (ob : OB) : (setS o id ob).length = o.length := by simp [setS]
theorem setO_setO (d : Nat) (a b : OB) : ∀ l : Objs,setO (setO l d a) d b = setO l d b
  | [] => by simp [setO]
  | (k,v) :: l => by
    by_cases h : k = d
    · simp [setO,h]
    · simp [setO,h,setO_setO d a b l]
theorem setS_setS (o : Stack) (id : Id) (a b : OB) : setS (setS o id a) id b = setS o id b := by
  unfold setS
  apply List.ext_getElem?
  intro i
  simp only [List.getElem?_modify]
  by_cases h : id.1 = i
  · subst h
    cases o[id.1]? with
    | none => simp
    | some l => simp [setO_setO]
  · simp [h]
theorem getS_setS {o : Stack} {id : Id} (h : id.1 < o.length) (a : OB) : getS (setS o id a) id = some a := by
  unfold getS setS
  rw [List.getElem?_modify,List.getElem?_eq_getElem h]
  simp [getO_setO]
theorem get_low {r l} {o : Stack} {id : Id} (h : id.1 < o.length) : St.get ⟨r,l,o⟩ id = getS o id := by
  have : ¬ id.1 = o.length := by omega
  simp [St.get,getS,this]
theorem set_low {r l} {o : Stack} {id : Id} {ob : OB} (h : id.1 < o.length) : St.set ⟨r,l,o⟩ id ob = ⟨r,l,setS o id ob⟩ := by
  have : ¬ id.1 = o.length := by omega
  simp [St.set,setS,this]
theorem setO_same (d : Nat) (ob : OB) : ∀ l : Objs,getO l d = some ob → setO l d ob = l
  | [],h => by cases h
  | (k,v) :: l,h => by
    simp only [getO] at h
    by_cases hk : k = d
    · rw [if_pos hk] at h
      simp only [Option.some.injEq] at h
      simp [setO,hk,h]
    · rw [if_neg hk] at h
      have hh := setO_same d ob l h
      simp only [setO,if_neg hk,hh]
theorem setS_same (o : Stack) (id : Id) (ob : OB) (hg : getS o id = some ob) : setS o id ob = o := by
  unfold setS
  apply List.ext_getElem?
  intro j
  rw [List.getElem?_modify]
  by_cases h : id.1 = j
  · subst h
    unfold getS at hg
    cases hl : o[id.1]? with
    | none => rw [hl] at hg; cases hg
    | some l =>
      rw [hl] at hg
      simp only [Option.bind_some] at hg
      simp only [if_true]
      show (some (setO l id.2 ob)) = some l
      rw [setO_same _ _ l hg]
  · simp [h]
theorem setS_app (o : Stack) (l : Objs) (id : Id) (ob : OB) (hid : id.1 < o.length) : setS (o ++ [l]) id ob = setS o id ob ++ [l] := by
  unfold setS
  apply List.ext_getElem?
  intro i
  simp only [List.getElem?_modify]
  rcases Nat.lt_trichotomy i o.length with h | h | h
  · rw [List.getElem?_append_left h,List.getElem?_append_left (by simpa using h),List.getElem?_modify]
  · subst h
    have : ¬ id.1 = o.length := by omega
    simp [this]
  · rw [List.getElem?_eq_none (by simp; omega),List.getElem?_eq_none (by simp; omega)]
    have : ¬ id.1 = i := by omega
    simp [this]
theorem getS_app (o : Stack) (l : Objs) (id : Id) (hid : id.1 < o.length) : getS (o ++ [l]) id = getS o id := by
  unfold getS
  rw [List.getElem?_append_left hid]
theorem gt_getS (o : Stack) (id : Id) : gt o id = getS o id := by
  unfold gt getS St.get
  by_cases h : id.1 = o.length
  · simp only [h,if_true]
    rw [List.getElem?_eq_none (Nat.le_refl _)]
    rfl
  · simp only [h,if_false]
theorem gt_setS {o : Stack} {id : Id} {ob : OB} (h : id.1 < o.length) : gt (setS o id ob) = upd (gt o) id ob := by
  have h1 := get_set (⟨[],[],o⟩ : St) id ob (by simpa using Nat.le_of_lt h)
  rw [set_low h] at h1
  exact h1
theorem shape_setS {o : Stack} {id : Id} {ob ob' : OB} (h : gt o id = some ob) : Shape o (setS o id ob') := by
  have hl : id.1 < o.length := gt_lv o id ob h
  refine ⟨setS_len _ _ _,fun j x hx => ?_⟩
  rw [gt_setS hl] at hx
  by_cases hj : j = id
  · subst hj; exact ⟨ob,h⟩
  · exact ⟨x,by simpa [upd,hj] using hx⟩
end Go.Am
end
section
/- What is nil,read as an empty slice: a function that is shown for the one is so for the other. -/
set_option linter.unusedSimpArgs false
set_option linter.unusedVariables false
namespace Go.Am
open Go.RowKit
mutual
def weak (k : Nat) : PV → PV
  | .nils => .sl false k []
  | .sl false j xs => .sl false j (weaks k xs)
  | .agg cs => .agg (weaks k cs)
  | x => x
def weaks (k : Nat) : List PV → List PV
  | [] => []
  | x :: xs => weak k x :: weaks k xs
end
theorem weaks_len (k : Nat) : ∀ xs,(weaks k xs).length = xs.length
  | [] => by simp [weaks]
  | x :: xs => by simp [weaks,weaks_len k xs]
theorem weak_cellP (k : Nat) (x : PV) : cellP (weak k x) = cellP x := by
  cases x with
  | sl u j xs => cases u <;> simp [weak,cellP]
  | _ => simp [weak,cellP]
theorem weaks_cellP (k : Nat) : ∀ xs,(weaks k xs).all cellP = xs.all cellP
  | [] => by simp [weaks]
  | x :: xs => by rw [weaks,List.all_cons,List.all_cons,weak_cellP,weaks_cellP k xs]
theorem weak_cells (k : Nat) (x : PV) : (weak k x).cells.length = x.cells.length := by
  cases x with
  | sl u j xs => cases u <;> simp [weak,PV.cells]
  | agg cs => simp [weak,PV.cells,weaks_len]
  | _ => simp [weak,PV.cells]
theorem weak_flatE (k : Nat) (x : PV) : flatE (weak k x) = flatE x := by
  cases x with
  | sl u j xs => cases u <;> simp [weak,flatE]
  | agg cs => simp only [weak,flatE,weaks_cellP]
  | _ => simp [weak,flatE]
theorem weaks_mem {k : Nat} : ∀ {xs : List PV} {y : PV},y ∈ weaks k xs → ∃ x ∈ xs,y = weak k x
  | [],y,h => by simp [weaks] at h
  | x :: xs,y,h => by
    simp only [weaks,List.mem_cons] at h
    rcases h with h | h
    · exact ⟨x,List.mem_cons_self,h⟩
    · obtain ⟨z,hz,e⟩ := weaks_mem h
      exact ⟨z,List.mem_cons_of_mem _ hz,e⟩
theorem weaks_Ls {k j : Nat} {xs : List PV} (h : Ls j xs) : Ls j (weaks k xs) := fun y hy => by
  obtain ⟨x,hx,rfl⟩ := weaks_mem hy
  rw [weak_cells,weak_flatE]
  exact h x hx
mutual
theorem weak_tree (k : Nat) : ∀ x,tree x = true → tree (weak k x) = true
  | .nils,_ => rfl
  | .sl false j xs,h => by simp only [weak,tree] at h ⊢; exact weaks_trees k xs h
  | .sl true j xs,h => h
  | .agg cs,h => by simp only [weak,tree] at h ⊢; exact weaks_trees k cs h
  | .undef,h | .sc _,h => rfl
  | .own _ _,h | .ref _ _ _ _,h | .sub _ _ _,h | .iref _ _,h | .mp _,h | .clo _ _,h | .tup _,h | .bx _,h | .non,h => by simp [tree] at h
theorem weaks_trees (k : Nat) : ∀ xs,trees xs = true → trees (weaks k xs) = true
  | [],_ => rfl
  | x :: xs,h => by
    simp only [trees,weaks,Bool.and_eq_true] at h ⊢
    exact ⟨weak_tree k x h.1,weaks_trees k xs h.2⟩
end
section
variable {c : Ctx} {S : Sto} {h : Hp}
mutual
theorem R_weak (k : Nat) : ∀ (x : PV) (vs : List Value) (fp : List Nat),R c S h x vs fp → R c S h (weak k x) vs fp
  | .nils,vs,fp,r => by
    obtain ⟨hf,A,hv⟩ := r
    exact ⟨rfl,fun x hx => (by cases hx),hf,A,0,hv,.inl rfl⟩
  | .sl false j xs,vs,fp,r => by
    obtain ⟨ht,hl,hf,A,cp,hv,ho⟩ := r
    refine ⟨weaks_trees k xs ht,weaks_Ls hl,hf,A,cp,by rw [weaks_len]; exact hv, ?_⟩
    rcases ho with rfl | ⟨g,off,cur,e,fr,ws,h1,h2,h3,h4,h5⟩
    · exact .inl rfl
    · exact .inr ⟨g,off,cur,e,fr,ws,h1,by rw [weaks_len]; exact h2,h3,Rs_weak k xs ws [] h4,by rw [weaks_len]; exact h5⟩
  | .agg cs,vs,fp,r => by
    obtain ⟨h1,h2⟩ := r
    exact ⟨by rw [weaks_cellP]; exact h1,Rs_weak k cs vs fp h2⟩
  | .sl true _ _,vs,fp,r | .undef,vs,fp,r | .sc _,vs,fp,r | .own _ _,vs,fp,r | .ref _ _ _ _,vs,fp,r | .sub _ _ _,vs,fp,r | .iref _ _,vs,fp,r | .mp _,vs,fp,r | .clo _ _,vs,fp,r | .tup _,vs,fp,r | .bx _,vs,fp,r | .non,vs,fp,r => r
theorem Rs_weak (k : Nat) : ∀ (xs : List PV) (vs : List Value) (fp : List Nat),Rs c S h xs vs fp → Rs c S h (weaks k xs) vs fp
  | [],vs,fp,r => r
  | x :: xs,vs,fp,r => by
    obtain ⟨v1,v2,f1,f2,h1,h2,h3,h4⟩ := r
    exact ⟨v1,v2,f1,f2,h1,h2,R_weak k x v1 f1 h3,Rs_weak k xs v2 f2 h4⟩
end
theorem RVal_weak (k : Nat) {x : PV} {v : Value} (r : RVal c S h x v) : RVal c S h (weak k x) v := by
  cases x with
  | nils => exact R_weak k .nils _ _ r
  | sl u j xs => cases u <;> exact R_weak k _ _ _ r
  | agg cs => obtain ⟨vs,e,r⟩ := r; exact ⟨vs,e,R_weak k _ _ _ r⟩
  | _ => exact r
end
end Go.Am
end
section
/- A function of a machine,as a primitive of another one that hands it what its arguments may also be read as. -/
set_option linter.unusedSimpArgs false
set_option linter.unusedVariables false
namespace Go.Am
open Go.RowKit
def Reads (t : PV → PV) : Prop := ∀ {c : Ctx} {S : Sto} {h : Hp} {x : PV} {v : Value},RVal c S h x v → RVal c S h (t x) v
theorem Reads.all {t : PV → PV} (ht : Reads t) {c : Ctx} {S : Sto} {h : Hp} : ∀ {xs : List PV} {vs : List Value},RVals c S h xs vs → RVals c S h (xs.map t) vs
  | [],vs,r => r
  | x :: xs,vs,r => by
    obtain ⟨v,ws,e,h1,h2⟩ := r
    exact ⟨v,ws,e,ht h1,ht.all h2⟩
def nil1 (k : Nat) : PV → PV
  | .agg [.nils] => .agg [.sl false k []]
  | x => x
theorem reads_nil1 (k : Nat) : Reads (nil1 k) := by
  intro c S h x v r
  unfold nil1
  split
  · have := RVal_weak k r
    simpa [weak,weaks] using this
  · exact r
noncomputable def viaP (G : Prog) (f : Nat) (t : PV → PV) (args : List PV) (o : Stack) : Option (PV × Stack) := callI G f (args.map t) o
theorem viaP_good {P : Program} {G : Prog} (ok : ProgOK P G) {f : Nat} {t : PV → PV} (ht : Reads t) {args : List PV} {o o' : Stack} {r : PV} (e : viaP G f t args o = some (r,o')) : Good P f args o r o' := by
  have hg := sound ok e
  exact ⟨hg.1,fun c fp w vals st hr => hg.2 c fp w vals st (ht.all hr)⟩
theorem Did.low {c : Ctx} {S S' : Sto} {w w' : World} {k : Nat} {xs : List PV} {e : Ending} (d : Did c S w S' (.sl true k xs) e w') : Did c S w S' (.sl false k (fals xs)) e w' := by
  obtain ⟨v,c',fp',f',e1,hw,ok,ha,hf,r⟩ := d
  have r : R c' S' (hp w') (.sl true k xs) [v] f' := r
  have ht : tree (.sl true k xs) = true := by simp only [R] at r; simp only [tree]; exact r.1
  have hF : ∀ b o,c'.F b = some o → (addF c' f' (hp w')).F b = some o := by
    intro b o h
    simp only [addF]
    split
    · rename_i hb
      exact (hf.2 b hb).1.no (.inl h)
    · exact h
  have ha2 : Adv c' (addF c' f' (hp w')) S' S' := ⟨hF,rfl,fun x o hx => ⟨o,hx,StepOB.rfl' rfl⟩⟩
  refine ⟨v,addF c' f' (hp w'),fp',[],e1,hw,ok.step ha2 (fun _ => False) ?_ (fun _ _ _ h => h.elim) ?_ ?_,ha.trans ha2,Free.nil, ?_⟩
  · intro id ob hs _
    refine ⟨hs,rfl,rfl,fun b hb => ⟨rfl, ?_,(ok.nF id ob hs b hb).2⟩⟩
    simp only [addF]
    rw [if_neg (fun hb' => (hf.2 b hb').2 id ob hs hb)]
    exact (ok.nF id ob hs b hb).1
  · intro b o h
    simp only [addF] at h
    split at h
    · rcases h with h | h
      · exact h
      · exact ok.okF b o (.inr h)
    · exact ok.okF b o h
  · intro b o h
    simp only [addF] at h ⊢
    split at h
    · rename_i hb
      exact (hf.2 b hb).1.2
    · exact ok.dis b o h
  · have := R.fal (c' := addF c' f' (hp w')) (S' := S') (h' := hp w') hF (.sl true k xs) [v] f' ht (fun b hb => by simp [addF,hb]) r
    exact this
def lowR : Option (PV × Stack) → Option (PV × Stack)
  | some (.sl true k xs,o) => some (.sl false k (fals xs),o)
  | r => r
noncomputable def lowP (G : Prog) (f : Nat) (t : PV → PV) (args : List PV) (o : Stack) : Option (PV × Stack) := lowR (viaP G f t args o)
theorem lowP_good {P : Program} {G : Prog} (ok : ProgOK P G) {f : Nat} {t : PV → PV} (ht : Reads t) {args : List PV} {o o' : Stack} {r : PV} (e : lowP G f t args o = some (r,o')) : Good P f args o r o' := by
  unfold lowP lowR at e
  split at e
  · rename_i k xs o1 he
    simp only [Option.some.injEq,Prod.mk.injEq] at e
    obtain ⟨rfl,rfl⟩ := e
    have hg := viaP_good ok ht he
    refine ⟨hg.1,fun c fp w vals st hr => (hg.2 c fp w vals st hr).mono fun e w' h => ⟨h.1,h.2.low⟩⟩
  · exact viaP_good ok ht e
theorem callI_prim' {G : Prog} {f : Nat} {p : List PV → Stack → Option (PV × Stack)} (h : G.prim f = some p) (args : List PV) (o : Stack) : callI G f args o = p args o := by
  rw [callI_eq]
  simp only [body1,h]
end Go.Am
end
section
/- Results that are handed on as trees that stay as they are. -/
set_option linter.unusedSimpArgs false
set_option linter.unusedVariables false
namespace Go.Am
open Go.RowKit
theorem RX.fal {c c' : Ctx} {S S' : Sto} {h h' : Hp} (hF : ∀ b o,c.F b = some o → c'.F b = some o) {x : PV} {v : Value} {f : List Nat} (t : tree x = true) (hf : ∀ b ∈ f,c'.F b = h b) (r : RX c S h x v f) : RX c' S' h' (Am.fal x) v [] := by
  cases x with
  | bx cs => simp [tree] at t
  | undef => exact r.elim
  | agg cs =>
    obtain ⟨vs,e,r⟩ := r
    exact ⟨vs,e,R.fal hF (.agg cs) vs f t hf r⟩
  | sc u => exact R.fal (S := S) (S' := S') (h' := h') hF (.sc u) [v] f t hf r
  | nils => exact R.fal (S := S) (S' := S') (h' := h') hF .nils [v] f t hf r
  | sl u k xs => exact R.fal (S := S) (S' := S') (h' := h') hF (.sl u k xs) [v] f t hf r
  | own _ _ => simp [tree] at t
  | ref _ _ _ _ => simp [tree] at t
  | sub _ _ _ => simp [tree] at t
  | iref _ _ => simp [tree] at t
  | mp _ => simp [tree] at t
  | clo _ _ => simp [tree] at t
  | tup _ => simp [tree] at t
  | non => simp [tree] at t
theorem RXs.fals {c c' : Ctx} {S S' : Sto} {h h' : Hp} (hF : ∀ b o,c.F b = some o → c'.F b = some o) : ∀ {xs : List PV} {vs : List Value} {f : List Nat},trees xs = true → (∀ b ∈ f,c'.F b = h b) → RXs c S h xs vs f → RXs c' S' h' (Am.fals xs) vs []
  | [],_,_,_,_,r => ⟨r.1,rfl⟩
  | x :: xs,vs,f,t,hf,⟨v,ws,f1,f2,e1,e2,r1,r2⟩ => by
    simp only [trees,Bool.and_eq_true] at t
    refine ⟨v,ws,[],[],e1,rfl,RX.fal hF t.1 (fun b hb => hf b (by rw [e2]; exact List.mem_append_left _ hb)) r1,RXs.fals hF t.2 (fun b hb => hf b (by rw [e2]; exact List.mem_append_right _ hb)) r2⟩
theorem Did.lowG {c : Ctx} {S S' : Sto} {w w' : World} {x y : PV} {e : Ending} (hxy : ∀ (c1 c2 : Ctx) (S1 S2 : Sto) (h1 h2 : Hp) (v : Value) (f : List Nat),(∀ b o,c1.F b = some o → c2.F b = some o) → (∀ b ∈ f,c2.F b = h1 b) → Ret c1 S1 h1 x v f → Ret c2 S2 h2 y v [])
    (d : Did c S w S' x e w') : Did c S w S' y e w' := by
  obtain ⟨v,c',fp',f',e1,hw,ok,ha,hf,r⟩ := d
  have hF : ∀ b o,c'.F b = some o → (addF c' f' (hp w')).F b = some o := by
    intro b o h
    simp only [addF]
    split
    · rename_i hb
      exact (hf.2 b hb).1.no (.inl h)
    · exact h
  have ha2 : Adv c' (addF c' f' (hp w')) S' S' := ⟨hF,rfl,fun x o hx => ⟨o,hx,StepOB.rfl' rfl⟩⟩
  refine ⟨v,addF c' f' (hp w'),fp',[],e1,hw,ok.step ha2 (fun _ => False) ?_ (fun _ _ _ h => h.elim) ?_ ?_,ha.trans ha2,Free.nil,hxy c' _ S' S' (hp w') _ v f' hF (fun b hb => by simp [addF,hb]) r⟩
  · intro id ob hs _
    refine ⟨hs,rfl,rfl,fun b hb => ⟨rfl, ?_,(ok.nF id ob hs b hb).2⟩⟩
    simp only [addF]
    rw [if_neg (fun hb' => (hf.2 b hb').2 id ob hs hb)]
    exact (ok.nF id ob hs b hb).1
  · intro b o h
    simp only [addF] at h
    split at h
    · rcases h with h | h
      · exact h
      · exact ok.okF b o (.inr h)
    · exact ok.okF b o h
  · intro b o h
    simp only [addF] at h ⊢
    split at h
    · rename_i hb
      exact (hf.2 b hb).1.2
    · exact ok.dis b o h
def lowTR : Option (PV × Stack) → Option (PV × Stack)
  | some (.tup ps,o) => if trees ps = true then some (.tup (fals ps),o) else some (.tup ps,o)
  | r => r
noncomputable def lowTP (G : Prog) (f : Nat) (t : PV → PV) (args : List PV) (o : Stack) : Option (PV × Stack) := lowTR (viaP G f t args o)
theorem lowTP_good {P : Program} {G : Prog} (ok : ProgOK P G) {f : Nat} {t : PV → PV} (ht : Reads t) {args : List PV} {o o' : Stack} {r : PV} (e : lowTP G f t args o = some (r,o')) : Good P f args o r o' := by
  unfold lowTP lowTR at e
  split at e
  · rename_i ps o1 he
    split at e
    · rename_i htr
      simp only [Option.some.injEq,Prod.mk.injEq] at e
      obtain ⟨rfl,rfl⟩ := e
      have hg := viaP_good ok ht he
      refine ⟨hg.1,fun c fp w vals st hr => (hg.2 c fp w vals st hr).mono fun e w' h => ⟨h.1,h.2.lowG ?_⟩⟩
      intro c1 c2 S1 S2 h1 h2 v f hF hf r
      obtain ⟨vs,e1,r⟩ := r
      exact ⟨vs,e1,RXs.fals hF htr hf r⟩
    · simp only [Option.some.injEq,Prod.mk.injEq] at e
      obtain ⟨rfl,rfl⟩ := e
      exact viaP_good ok ht he
  · exact viaP_good ok ht e
end Go.Am
end
section
/- A result that is handed on as a tree that stays as it is. -/
set_option linter.unusedSimpArgs false
set_option linter.unusedVariables false
namespace Go.Am
open Go.RowKit
def lowXR : Option (PV × Stack) → Option (PV × Stack)
  | some (x,o) => if tree x = true then some (fal x,o) else some (x,o)
  | r => r
noncomputable def lowXP (G : Prog) (f : Nat) (t : PV → PV) (args : List PV) (o : Stack) : Option (PV × Stack) := lowXR (viaP G f t args o)
theorem ret_tree {c : Ctx} {S : Sto} {h : Hp} {x : PV} {v : Value} {f : List Nat} (t : tree x = true) (r : Ret c S h x v f) : RX c S h x v f := by
  cases x with
  | tup _ => simp [tree] at t
  | _ => exact r
theorem ret_fal {c : Ctx} {S : Sto} {h : Hp} {x : PV} {v : Value} {f : List Nat} (t : tree x = true) (r : RX c S h (fal x) v f) : Ret c S h (fal x) v f := by
  cases x with
  | tup _ => simp [tree] at t
  | _ => exact r
theorem lowXP_good {P : Program} {G : Prog} (ok : ProgOK P G) {f : Nat} {t : PV → PV} (ht : Reads t) {args : List PV} {o o' : Stack} {r : PV} (e : lowXP G f t args o = some (r,o')) : Good P f args o r o' := by
  unfold lowXP lowXR at e
  split at e
  · rename_i x o1 he
    split at e
    · rename_i htr
      simp only [Option.some.injEq,Prod.mk.injEq] at e
      obtain ⟨rfl,rfl⟩ := e
      have hg := viaP_good ok ht he
      refine ⟨hg.1,fun c fp w vals st hr => (hg.2 c fp w vals st hr).mono fun e w' h => ⟨h.1,h.2.lowG ?_⟩⟩
      intro c1 c2 S1 S2 h1 h2 v f hF hf r
      exact ret_fal htr (RX.fal hF htr hf (ret_tree htr r))
    · simp only [Option.some.injEq,Prod.mk.injEq] at e
      obtain ⟨rfl,rfl⟩ := e
      exact viaP_good ok ht he
  · exact viaP_good ok ht e
end Go.Am
end
