/- An abstract machine; its steps are those of the model. -/
import Derived.Test.YtifjnagbhfnmgaaDoorAnB
import Derived.Orders
import Derived.Maps.RangeRun
section
/- Regions whose order is drawn. -/
set_option linter.unusedSimpArgs false
set_option linter.unusedVariables false
namespace Go.Am
open Go.RowKit
/-! #### a step depends on its operands and the objects alone -/
section
variable {call : CallF}
def St.wr (s : St) (r : Regs) : St := { s with r := r }
theorem wr_get (s : St) (r : Regs) : (s.wr r).get = s.get := rfl
theorem wr_set (s : St) (r : Regs) (id : Id) (ob : OB) : (s.wr r).set id ob = (s.set id ob).wr r := by
  unfold St.set St.wr; split <;> rfl
theorem wr_sets (r : Regs) : ∀ (ws : List (Id × OB)) (s : St), (s.wr r).sets ws = (s.sets ws).wr r
  | [], _ => rfl
  | (id, ob) :: ws, s => by simp only [St.sets]; rw [wr_set, wr_sets r ws]
theorem callBy_wr {n : Nat} {s s1 : St} {f : Nat} {zs : List PV} {v : PV} (r : Regs) (e : callBy call n s f zs = some (v, s1)) : callBy call n (s.wr r) f zs = some (v, s1.wr r) := by
  unfold callBy at e ⊢
  split at e
  · rename_i h
    rw [if_pos h]
    split at e
    · rename_i q o' hc
      simp only [Option.some.injEq, Prod.mk.injEq] at e
      obtain ⟨rfl, rfl⟩ := e
      first | rfl | rw [hc]
    · cases e
  · rename_i h
    rw [if_neg h]
    split at e
    · rename_i h2
      rw [if_pos h2]
      split at e
      · rename_i q o' hc
        simp only [Option.some.injEq, Prod.mk.injEq] at e
        obtain ⟨rfl, rfl⟩ := e
        have hc' : call f zs ((s.wr r).o ++ [(s.wr r).l]) = some (q, o') := hc
        rw [hc']; rfl
      · cases e
    · rename_i h2
      rw [if_neg h2]
      split at e
      · rename_i q o' hc
        simp only [Option.some.injEq, Prod.mk.injEq] at e
        obtain ⟨rfl, rfl⟩ := e
        have hc' : call f zs ((s.wr r).o ++ [[]]) = some (q, o') := hc
        rw [hc']; rfl
      · cases e
theorem callBy_r {n : Nat} {s s1 : St} {f : Nat} {zs : List PV} {v : PV} (e : callBy call n s f zs = some (v, s1)) : s1.r = s.r := by
  unfold callBy at e
  repeat' split at e
  all_goals first
    | (cases e; done)
    | (simp only [Option.some.injEq, Prod.mk.injEq] at e; obtain ⟨_, rfl⟩ := e; rfl)
theorem freshAll_wr (r : Regs) (s : St) : ∀ ws : List (Id × OB), freshAll (s.wr r) ws = freshAll s ws
  | [] => rfl
  | (id, ob) :: ws => by simp only [freshAll, wr_get, freshAll_wr r s ws]
theorem land_wr {n : Nat} {d : Option Nat} {v : PV} {s s1 : St} (r : Regs) (e : land n d v s = some s1) : ∃ y, s1.r = (s.put d y).r ∧ land n d v (s.wr r) = some (s1.wr ((s.wr r).put d y).r) := by
  unfold land at e ⊢
  simp only at e ⊢
  rw [freshAll_wr]
  split at e
  · rename_i h
    simp only [Option.some.injEq] at e
    subst e
    refine ⟨(impo n (d.getD 999) v 0).1, ?_, ?_⟩
    · cases d with
      | none => simp only [St.put, sets_r]
      | some t => simp only [St.put, sets_r]
    · rw [if_pos h, wr_sets]
      cases d <;> rfl
  · cases e
theorem stepGo_wr {s s1 : St} {ai : AI} (r : Regs) (hx : ∀ x ∈ ai.xs, (s.wr r).ev x = s.ev x) (e : stepGo call s ai = some s1) :
    ∃ y, s1.r = (s.put ai.d y).r ∧ stepGo call (s.wr r) ai = some (s1.wr ((s.wr r).put ai.d y).r) := by
  have hm : ai.xs.map (s.wr r).ev = ai.xs.map s.ev := List.map_congr_left hx
  unfold stepGo at e ⊢
  split at e
  · rename_i byref leaky hop
    rw [hm]
    unfold stepCall at e ⊢
    split at e
    · rename_i f caps xs hxs
      simp only [wr_get] at e ⊢
      split at e
      · cases e
      · rename_i ys hys
        try simp only [hys]
        split at e
        · rename_i hrs
          try simp only [hrs]
          split at e
          · rename_i q s2 hc
            have := callBy_wr r hc
            have hlen : (s.wr r).o.length = s.o.length := rfl
            rw [hlen, this]
            dsimp only
            obtain ⟨y, h1, h2⟩ := land_wr r e
            refine ⟨y, ?_, ?_⟩
            · rw [h1]; cases hd : ai.d <;> simp only [St.put, callBy_r hc]
            · rw [h2]
              congr 2
              cases hd : ai.d <;> rfl
          · cases e
        · rename_i rs hne
          try simp only [hne]
          split at e
          · rename_i q s2 hc
            have hc' := callBy_wr r hc
            rw [← wr_sets] at hc'
            have hlen : (s.wr r).o.length = s.o.length := rfl
            rw [hlen, hc']
            dsimp only
            have hr2 : s2.r = s.r := (callBy_r hc).trans (sets_r _ _)
            split at e
            · rename_i hl
              simp only [hl, if_true]
              obtain ⟨y, h1, h2⟩ := land_wr r e
              refine ⟨y, ?_, ?_⟩
              · rw [h1]; cases hd : ai.d <;> simp only [St.put, hr2]
              · rw [h2]
                congr 2
                cases hd : ai.d <;> rfl
            · rename_i hl
              simp only [hl]
              split at e
              · rename_i hn
                simp only [hn, if_true]
                obtain ⟨y, h1, h2⟩ := land_wr r e
                refine ⟨y, ?_, ?_⟩
                · rw [h1]; cases hd : ai.d <;> simp only [St.put, sets_r, hr2]
                · have : (s2.wr r).sets (thaws (rowIdA s.get byref 0 xs)) = (s2.sets (thaws (rowIdA s.get byref 0 xs))).wr r := wr_sets _ _ _
                  simp only [Bool.false_eq_true, if_false]
                  rw [this, h2]
                  congr 2
                  cases hd : ai.d <;> rfl
              · cases e
          · cases e
    · cases e
  · rename_i hop
    rw [hm]
    simp only [wr_get]
    split at e
    · rename_i v ws hc
      simp only [Option.some.injEq] at e
      subst e
      refine ⟨v, ?_, ?_⟩
      · cases hd : ai.d <;> simp only [St.put, sets_r]
      · have hlen : (s.wr r).o.length = s.o.length := rfl
        rw [hlen, hc]
        dsimp only
        rw [wr_sets]
        cases hd : ai.d <;> rfl
    · cases e
end
end Go.Am
end
section
/- Regions whose order is drawn: every order comes to what the machine's order comes to. -/
set_option linter.unusedSimpArgs false
set_option linter.unusedVariables false
namespace Go.Am
open Go.RowKit
/-- Yields a value alone. -/
def isRd : K → Bool
  | .move | .pick | .build _ _ | .load _ _ | .bin _ | .beq | .bne | .not | .neg | .faddr _ | .iaddr _ | .iarr _ _ | .idx _ _ _ | .istr | .fld _ _ | .ext _ | .len | .lens | .mkfunc _ | .conv _ | .min2 | .max2 | .nck | .isnil | .meq _ | .bstr | .sstr _ _ => true
  | _ => false
set_option maxHeartbeats 1000000 in
theorem rd_core1 {n d d' : Nat} {g : Id → Option OB} {k : K} {ps : List PV} {y : PV} {ws : List (Id × OB)} (h : isRd k = true) (e : core1 n d g k ps = some (y, ws)) : ws = [] ∧ core1 n d' g k ps = some (y, ws) := by
  unfold core1 at e
  split at e <;> first
    | (simp [isRd] at h; done)
    | ((repeat' split at e) <;> first
        | (cases e; done)
        | (simp only [Option.some.injEq, Prod.mk.injEq] at e
           obtain ⟨rfl, rfl⟩ := e
           refine ⟨rfl, ?_⟩
           first
             | (simp only [core1, *]; done)
             | (simp only [core1, *]; simp; done)
             | (simp_all [core1]; done)
             | (simp_all [core1]; have hh := ‹_ ∧ _ ∧ ib _ _ = true›; rw [← hh.2.1]; exact hh.2.2)))
/-- Looks at no object. -/
def isPure : K → Bool
  | .move | .pick | .build _ _ | .bin _ | .beq | .bne | .not | .neg | .idx _ _ _ | .istr | .fld _ _ | .ext _ | .lens | .mkfunc _ | .conv _ | .min2 | .max2 | .isnil | .meq _ | .sstr _ _ => true
  | _ => false
set_option maxHeartbeats 1000000 in
theorem pure_core1 {n n' d d' : Nat} {g g' : Id → Option OB} {k : K} {ps : List PV} {y : PV} {ws : List (Id × OB)} (h : isPure k = true) (e : core1 n d g k ps = some (y, ws)) : core1 n' d' g' k ps = some (y, ws) := by
  unfold core1 at e
  split at e <;> first
    | (simp [isPure] at h; done)
    | ((repeat' split at e) <;> first
        | (cases e; done)
        | (simp only [Option.some.injEq, Prod.mk.injEq] at e
           obtain ⟨rfl, rfl⟩ := e
           first
             | (simp only [core1, *]; done)
             | (simp only [core1, *]; simp; done)
             | (simp_all [core1]; done)))
theorem chk_spec {n d : Nat} {g : Id → Option OB} {k : K} {ps : List PV} {y : PV} {ws : List (Id × OB)} (e : core n d g (.chk k) ps = some (y, ws)) : ws = [] ∧ ∃ x xs, ps = x :: xs ∧ core1 n d g k xs = some (x, []) := by
  unfold core at e
  split at e
  · rename_i op x xs hk
    injection hk with hk
    subst hk
    split at e
    · rename_i h
      simp only [Option.some.injEq, Prod.mk.injEq] at e
      exact ⟨e.2.symm, x, xs, rfl, h⟩
    · cases e
  · rename_i op xs hn
    unfold core1 at e
    split at e <;> first | (cases e; done) | (rename_i h; cases h; done) | (rename_i h _; cases h; done) | (rename_i h _ _; cases h; done) | skip
    all_goals (exfalso; first | exact K.noConfusion (by assumption) | skip)
/-! #### the form of a drawn region -/
def opdTmps : List Opd → List Nat
  | [] => []
  | .t n :: r => n :: opdTmps r
  | _ :: r => opdTmps r
def dstOf (os : Array Oper) (i : Nat) : Option Nat := (os[i]?).bind (·.dst)
def afterOf (os : Array Oper) (i : Nat) : List Nat := match os[i]? with
  | some o => (o.after.toList.filter fun e => Region.binds .any e).map (·.on)
  | none => []
def anc (os : Array Oper) : Nat → Nat → Nat → Bool
  | 0, _, _ => false
  | k + 1, i, j => (afterOf os i).any fun q => q == j || anc os k q j
def opK (as : List AI) (p : Nat) : K := match as[p]? with | some ai => ai.op | none => .move
def opX (as : List AI) (p : Nat) : List Opd := match as[p]? with | some ai => ai.xs | none => []
def opG (as : List AI) (p : Nat) : List Nat := match as[p]? with | some ai => (match ai.g with | some (j, _) => [j] | none => []) | none => []
def isEff (as : List AI) (p : Nat) : Bool := !isChk (opK as p) && !isRd (opK as p)
/-- What the machine's order of a drawn region must be: `ps` tells where each operation stands. -/
structure Plan (P : Program) (N : Nat) (os : Array Oper) (as : List AI) (ps : Nat → Nat) : Prop where
  op : ∀ i o, os[i]? = some o → ∃ ai, as[ps i]? = some ai ∧ okAI P N os ai o = true ∧ isChk ai.op = false
  pos : ∀ p ai, as[p]? = some ai → (isChk ai.op = true ∧ ai.d = none) ∨ ∃ i o, os[i]? = some o ∧ ps i = p
  inj : ∀ i j, i < os.size → j < os.size → ps i = ps j → i = j
  dst : ∀ i j t, dstOf os i = some t → dstOf os j = some t → i = j
  dep : ∀ i j t, dstOf os j = some t → t ∈ opdTmps (opX as (ps i)) ++ opG as (ps i) → i < os.size → anc os os.size i j = true ∨ anc os os.size j i = true
  top : ∀ i q, i < os.size → q ∈ afterOf os i → q < os.size ∧ ps q < ps i
  aft : ∀ i e, i < os.size → e < os.size → isEff as (ps e) = true → ps e < ps i → anc os os.size i e = true
  fwd : ∀ i e, i < os.size → e < os.size → isEff as (ps e) = true → isEff as (ps i) = false → ps i < ps e → anc os os.size e i = true ∨
    (∃ r a b t, as[r]? = some a ∧ as[ps i]? = some b ∧ b.d = some t ∧ ps e < r ∧ (∀ q, ps e < q → q < r → isEff as q = false) ∧ a.op = .chk b.op ∧ a.xs = .t t :: b.xs ∧ a.g = b.g ∧ ∀ j u, dstOf os j = some u → u ∈ opdTmps (opX as (ps i)) ++ opG as (ps i) → anc os os.size j i = true → r ≤ ps j) ∨ isPure (opK as (ps i)) = true
section
variable {P : Program} {N n : Nat} {os : Array Oper} {as : List AI} {ps : Nat → Nat} {call : CallF}
theorem anc_pos (pl : Plan P N os as ps) : ∀ (k i j : Nat), i < os.size → anc os k i j = true → j < os.size ∧ ps j < ps i
  | 0, _, _, _, h => by simp [anc] at h
  | k + 1, i, j, hi, h => by
    simp only [anc, List.any_eq_true, Bool.or_eq_true, beq_iff_eq] at h
    obtain ⟨q, hq, h⟩ := h
    obtain ⟨h1, h2⟩ := pl.top i q hi hq
    rcases h with rfl | h
    · exact ⟨h1, h2⟩
    · obtain ⟨h3, h4⟩ := anc_pos pl k q j h1 h
      exact ⟨h3, by omega⟩
/-- What is listed holds what it stands behind. -/
def Clo (os : Array Oper) (listed : Array Bool) : Prop := ∀ i, i < os.size → listed.getD i false = true → ∀ q ∈ afterOf os i, listed.getD q false = true
theorem anc_listed (pl : Plan P N os as ps) {listed : Array Bool} (hc : Clo os listed) : ∀ (k i j : Nat), i < os.size → (∀ q ∈ afterOf os i, listed.getD q false = true) → anc os k i j = true → listed.getD j false = true
  | 0, _, _, _, _, h => by simp [anc] at h
  | k + 1, i, j, hi, ha, h => by
    simp only [anc, List.any_eq_true, Bool.or_eq_true, beq_iff_eq] at h
    obtain ⟨q, hq, h⟩ := h
    rcases h with rfl | h
    · exact ha _ hq
    · have hq1 := (pl.top i q hi hq).1
      exact anc_listed pl hc k q j hq1 (hc q hq1 (ha q hq)) h
/-- The states that the machine goes through. -/
theorem trace : ∀ {as : List AI} {s s' : St}, steps call s as = some s' → ∃ st : Nat → St, st 0 = s ∧ st as.length = s' ∧ ∀ p ai, as[p]? = some ai → stepI call (st p) ai = some (st (p + 1))
  | [], s, s', e => by
    simp only [steps, Option.some.injEq] at e
    exact ⟨fun _ => s, rfl, e, fun p ai h => by simp at h⟩
  | a :: as, s, s', e => by
    simp only [steps] at e
    split at e
    · rename_i s1 h1
      obtain ⟨st, h2, h3, h4⟩ := trace e
      refine ⟨fun p => match p with | 0 => s | q + 1 => st q, rfl, h3, fun p ai h => ?_⟩
      cases p with
      | zero =>
        simp only [List.getElem?_cons_zero, Option.some.injEq] at h
        subst h
        simpa [h2] using h1
      | succ q => exact h4 q ai (by simpa using h)
    · cases e
/-- What an operation's guard says. -/
def gate (s : St) (ai : AI) : Option Bool := match ai.g with
  | none => some true
  | some (j, w) => match getR s.r j with
    | .sc (.bool b) => some (b == w)
    | .non => some false
    | _ => none
theorem stepI_t {s : St} {ai : AI} (h : gate s ai = some true) : stepI call s ai = stepGo call s ai := by
  rw [stepI_eq]
  unfold gate at h
  split at h
  · rename_i hg; rw [hg]
  · rename_i j w hg
    rw [hg]
    simp only
    split at h
    · rename_i b hb
      simp only [Option.some.injEq] at h
      have := eq_of_beq h
      subst this
      rw [hb]; simp
    · cases h
    · cases h
theorem stepI_f {s : St} {ai : AI} (h : gate s ai = some false) : stepI call s ai = some (s.put ai.d .non) := by
  rw [stepI_eq]
  unfold gate at h
  split at h
  · cases h
  · rename_i j w hg
    rw [hg]
    simp only
    split at h
    · rename_i b hb
      simp only [Option.some.injEq, beq_eq_false_iff_ne] at h
      rw [hb]; simp [h]
    · rename_i hb
      rw [hb]
    · cases h
theorem gate_some {s s1 : St} {ai : AI} (e : stepI call s ai = some s1) : ∃ b, gate s ai = some b := by
  rw [stepI_eq] at e
  unfold gate
  cases hg : ai.g with
  | none => exact ⟨_, rfl⟩
  | some jw =>
    obtain ⟨j, w⟩ := jw
    rw [hg] at e
    simp only at e ⊢
    split at e
    · rename_i b hb; rw [hb]; exact ⟨_, rfl⟩
    · rename_i hb; rw [hb]; exact ⟨_, rfl⟩
    · cases e
theorem gate_eq {s s1 : St} {ai : AI} (h : ∀ j w, ai.g = some (j, w) → getR s1.r j = getR s.r j) : gate s1 ai = gate s ai := by
  unfold gate
  cases hg : ai.g with
  | none => rfl
  | some jw =>
    obtain ⟨j, w⟩ := jw
    simp only
    rw [h j w hg]
theorem go_shape {s s1 : St} {ai : AI} (e : stepGo call s ai = some s1) : ∃ y, s1.r = (s.put ai.d y).r := by
  obtain ⟨y, h, _⟩ := stepGo_wr (call := call) s.r (fun _ _ => rfl) e
  exact ⟨y, h⟩
theorem rd_shape {s s1 : St} {ai : AI} (h : isRd ai.op = true ∨ isChk ai.op = true) (e : stepGo call s ai = some s1) : s1.l = s.l ∧ s1.o = s.o := by
  unfold stepGo at e
  split at e
  · rename_i b l hop
    rw [hop] at h
    simp [isRd, isChk] at h
  · split at e
    · rename_i v ws hc
      simp only [Option.some.injEq] at e
      have hws : ws = [] := by
        rcases h with h | h
        · have hck : isChk ai.op = false := by cases hk : ai.op <;> rw [hk] at h <;> first | rfl | (simp [isRd] at h)
          rw [core_core1 hck] at hc
          exact (rd_core1 (d' := 0) h hc).1
        · obtain ⟨k, hk⟩ : ∃ k, ai.op = .chk k := by
            cases hk : ai.op <;> rw [hk] at h <;> first | (simp [isChk] at h; done) | exact ⟨_, rfl⟩
          rw [hk] at hc
          exact (chk_spec hc).1
      subst hws
      subst e
      cases hd : ai.d <;> exact ⟨rfl, rfl⟩
    · cases e
theorem stepI_shape {s s1 : St} {ai : AI} (e : stepI call s ai = some s1) : ∃ y, s1.r = (s.put ai.d y).r := by
  obtain ⟨b, hb⟩ := gate_some e
  cases b with
  | true => rw [stepI_t hb] at e; exact go_shape e
  | false =>
    rw [stepI_f hb] at e
    simp only [Option.some.injEq] at e
    exact ⟨.non, by rw [← e]⟩
theorem stepI_rd {s s1 : St} {ai : AI} (h : isRd ai.op = true ∨ isChk ai.op = true) (e : stepI call s ai = some s1) : s1.l = s.l ∧ s1.o = s.o := by
  obtain ⟨b, hb⟩ := gate_some e
  cases b with
  | true => rw [stepI_t hb] at e; exact rd_shape h e
  | false =>
    rw [stepI_f hb] at e
    simp only [Option.some.injEq] at e
    rw [← e]
    cases ai.d <;> exact ⟨rfl, rfl⟩
end
end Go.Am
end
section
/- Every drawn order comes to the machine's end. -/
set_option linter.unusedSimpArgs false
set_option linter.unusedVariables false
namespace Go.Am
open Go.RowKit
theorem countP_lt {α : Type} {p p' : α → Bool} (h : ∀ x, p' x = true → p x = true) : ∀ {l : List α} {i : α}, i ∈ l → p i = true → p' i = false → l.countP p' < l.countP p
  | [], _, hi, _, _ => by cases hi
  | a :: l, i, hi, h1, h2 => by
    simp only [List.countP_cons]
    have hle : l.countP p' ≤ l.countP p := List.countP_mono_left fun x _ hx => h x hx
    rcases List.mem_cons.1 hi with rfl | hi
    · simp only [h1, h2, if_true]
      simp; omega
    · have := countP_lt h hi h1 h2
      by_cases ha : p' a = true
      · simp [ha, h a ha]; omega
      · simp [ha]; omega
theorem last_eff {f : Nat → Bool} (p : Nat) : ∀ q, (∃ r, p ≤ r ∧ r < q ∧ f r = true) → ∃ r, p ≤ r ∧ r < q ∧ f r = true ∧ ∀ r', r < r' → r' < q → f r' = false
  | 0, ⟨r, _, h, _⟩ => by omega
  | q + 1, ⟨r, h1, h2, h3⟩ => by
    by_cases hq : f q = true
    · exact ⟨q, by omega, by omega, hq, fun r' h4 h5 => by omega⟩
    · have : r ≠ q := fun e => hq (e ▸ h3)
      obtain ⟨r0, g1, g2, g3, g4⟩ := last_eff p q ⟨r, h1, by omega, h3⟩
      refine ⟨r0, g1, by omega, g3, fun r' h4 h5 => ?_⟩
      by_cases h : r' = q
      · subst h; simpa using hq
      · exact g4 r' h4 (by omega)
theorem min_pos {ps : Nat → Nat} {f : Nat → Prop} : ∀ (m : Nat), (∃ i, f i ∧ ps i ≤ m) → ∃ i, f i ∧ ∀ j, f j → ps i ≤ ps j
  | 0, ⟨i, h1, h2⟩ => ⟨i, h1, fun j _ => by omega⟩
  | m + 1, ⟨i, h1, h2⟩ => by
    by_cases h : ∃ j, f j ∧ ps j ≤ m
    · exact min_pos m h
    · exact ⟨i, h1, fun j hj => by
        rcases Nat.lt_or_ge m (ps j) with h3 | h3
        · omega
        · exact absurd ⟨j, hj, h3⟩ h⟩
def regsL (os : Array Oper) (f : Nat → PV) (listed : Array Bool) (r : Regs) : Regs := ((List.range os.size).filterMap fun i => if listed.getD i false then (dstOf os i).map fun t => (t, f t) else none) ++ r
theorem getR_pairs {f : Nat → PV} {r : Regs} {t : Nat} : ∀ {A : Regs}, (∀ x ∈ A, x.2 = f x.1) → getR (A ++ r) t = if t ∈ A.map (·.1) then f t else getR r t
  | [], _ => by simp
  | (u, v) :: A, h => by
    have hu := h _ List.mem_cons_self
    simp only at hu
    simp only [List.cons_append, getR, List.map_cons, List.mem_cons]
    by_cases e : u = t
    · subst e; simp [hu]
    · simp only [e, if_false, Ne.symm e, false_or]
      exact getR_pairs fun x hx => h x (List.mem_cons_of_mem _ hx)
open Classical in
theorem getR_regsL {os : Array Oper} {f : Nat → PV} {listed : Array Bool} {r : Regs} {t : Nat} : getR (regsL os f listed r) t = if ∃ i, listed.getD i false = true ∧ dstOf os i = some t then f t else getR r t := by
  unfold regsL
  rw [getR_pairs]
  · have : (t ∈ ((List.range os.size).filterMap fun i => if listed.getD i false then (dstOf os i).map fun t => (t, f t) else none).map (·.1)) ↔ ∃ i, listed.getD i false = true ∧ dstOf os i = some t := by
      simp only [List.mem_map, List.mem_filterMap, List.mem_range]
      constructor
      · rintro ⟨⟨u, v⟩, ⟨i, hi, h⟩, rfl⟩
        split at h
        · rename_i hl
          obtain ⟨t', h1, h2⟩ := Option.map_eq_some_iff.1 h
          injection h2 with h2 h3
          subst h2
          exact ⟨i, hl, h1⟩
        · cases h
      · rintro ⟨i, hl, h⟩
        have hi : i < os.size := by
          unfold dstOf at h
          cases ho : os[i]? with
          | none => simp [ho] at h
          | some o => exact (Array.getElem?_eq_some_iff.1 ho).1
        exact ⟨(t, f t), ⟨i, hi, by simp [hl, h]⟩, rfl⟩
    by_cases h : ∃ i, listed.getD i false = true ∧ dstOf os i = some t
    · rw [if_pos (this.2 h), if_pos h]
    · rw [if_neg (fun h' => h (this.1 h')), if_neg h]
  · intro x hx
    obtain ⟨i, _, h⟩ := List.mem_filterMap.1 hx
    split at h
    · obtain ⟨t', _, rfl⟩ := Option.map_eq_some_iff.1 h; rfl
    · cases h
section
variable {P : Program} {N n : Nat} {c0 : Ctx} {S0 : Sto} {w0 w : World} {os : Array Oper} {as : List AI} {ps : Nat → Nat} {call : CallF} {s s' : St} {a : Act}
theorem Inv.ext {s1 s2 : St} (inv : Inv N c0 S0 w0 n s1 a w) (hr : ∀ t, getR s2.r t = getR s1.r t) (hl : s2.l = s1.l) (ho : s2.o = s1.o) : Inv N c0 S0 w0 n s2 a w := by
  obtain ⟨c, fp, sim, ha, hg, hd, hn⟩ := inv
  have hget : s2.get = s1.get := by funext i; simp only [St.get, hl, ho]
  exact ⟨c, fp, ⟨fun t => by rw [hr t, hget]; exact sim.rg t, by rw [hget]; exact sim.st, sim.df, sim.sz⟩, by rw [hget]; exact ha, hg, by rw [hget]; exact hd, by rw [ho]; exact hn⟩
/-- A machine's run of the region. -/
structure Tr (call : CallF) (as : List AI) (s s' : St) (st : Nat → St) : Prop where
  z : st 0 = s
  e : st as.length = s'
  go : ∀ p ai, as[p]? = some ai → stepI call (st p) ai = some (st (p + 1))
variable {st : Nat → St}
theorem dst_lt {i t : Nat} (h : dstOf os i = some t) : i < os.size := by
  unfold dstOf at h
  cases ho : os[i]? with
  | none => simp [ho] at h
  | some o => exact (Array.getElem?_eq_some_iff.1 ho).1
theorem op_at (pl : Plan P N os as ps) {i : Nat} (hi : i < os.size) : ∃ o ai, os[i]? = some o ∧ as[ps i]? = some ai ∧ okAI P N os ai o = true ∧ isChk ai.op = false ∧ ai.d = dstOf os i ∧ opK as (ps i) = ai.op ∧ opX as (ps i) = ai.xs := by
  have ho : os[i]? = some os[i] := Array.getElem?_eq_getElem hi
  obtain ⟨ai, h1, h2, h4⟩ := pl.op i _ ho
  refine ⟨_, ai, ho, h1, h2, h4, ?_, by simp [opK, h1], by simp [opX, h1]⟩
  simp only [okAI, Bool.and_eq_true] at h2
  have := eq_of_beq h2.1.1.1.1
  simp only [dstOf, ho]
  exact this
theorem pos_le (pl : Plan P N os as ps) {i : Nat} (hi : i < os.size) : ps i < as.length := by
  obtain ⟨o, ai, _, h, _⟩ := op_at pl hi
  exact (List.getElem?_eq_some_iff.1 h).1
/-- Registers between two places. -/
theorem regs_between (pl : Plan P N os as ps) (tr : Tr call as s s' st) {t p : Nat} : ∀ {p' : Nat}, p ≤ p' → p' ≤ as.length → (∀ i, dstOf os i = some t → ¬ (p ≤ ps i ∧ ps i < p')) → getR (st p').r t = getR (st p).r t := by
  intro p'
  induction p' with
  | zero => intro h _ _; rw [Nat.le_zero.1 h]
  | succ q ih =>
    intro h1 h2 h3
    by_cases hq : p = q + 1
    · rw [hq]
    · have ih' := ih (by omega) (by omega) (fun i hi hh => h3 i hi ⟨hh.1, by omega⟩)
      obtain ⟨ai, hai⟩ : ∃ ai, as[q]? = some ai := ⟨_, List.getElem?_eq_getElem (by omega)⟩
      have hstep := tr.go q ai hai
      have hg : ai.d ≠ some t := by
        rcases pl.pos q ai hai with ⟨_, h⟩ | ⟨i, o, ho, hpi⟩
        · rw [h]; simp
        · obtain ⟨o', ai', _, g1, _, _, g3, _⟩ := op_at pl (Array.getElem?_eq_some_iff.1 ho).1
          rw [hpi, hai] at g1
          simp only [Option.some.injEq] at g1
          subst g1
          refine fun e => ?_
          rw [g3] at e
          exact h3 i e ⟨by omega, by omega⟩
      obtain ⟨y, hy⟩ := stepI_shape hstep
      rw [hy, ← ih']
      cases hd : ai.d with
      | none => rfl
      | some u =>
        simp only [St.put, getR]
        rw [if_neg]
        intro e; subst e; exact hg hd
theorem regs_done (pl : Plan P N os as ps) (tr : Tr call as s s' st) {i t p : Nat} (hi : dstOf os i = some t) (h1 : ps i < p) (h2 : p ≤ as.length) : getR (st p).r t = getR s'.r t := by
  rw [← tr.e]
  refine (regs_between pl tr h2 (Nat.le_refl _) (fun j hj hh => ?_)).symm
  have := pl.dst i j t hi hj
  subst this
  omega
theorem regs_none (pl : Plan P N os as ps) (tr : Tr call as s s' st) {t p : Nat} (h : ∀ i, dstOf os i ≠ some t) (h2 : p ≤ as.length) : getR (st p).r t = getR s.r t := by
  rw [← tr.z]
  exact regs_between pl tr (Nat.zero_le _) h2 (fun i hi => absurd hi (h i))
/-- Objects between two places. -/
theorem objs_between (pl : Plan P N os as ps) (tr : Tr call as s s' st) {p : Nat} : ∀ {p' : Nat}, p ≤ p' → p' ≤ as.length → (∀ q, p ≤ q → q < p' → isEff as q = false) → (st p').l = (st p).l ∧ (st p').o = (st p).o := by
  intro p'
  induction p' with
  | zero => intro h _ _; rw [Nat.le_zero.1 h]; exact ⟨rfl, rfl⟩
  | succ q ih =>
    intro h1 h2 h3
    by_cases hq : p = q + 1
    · rw [hq]; exact ⟨rfl, rfl⟩
    · obtain ⟨i1, i2⟩ := ih (by omega) (by omega) (fun r hr hr' => h3 r hr (by omega))
      obtain ⟨ai, hai⟩ : ∃ ai, as[q]? = some ai := ⟨_, List.getElem?_eq_getElem (by omega)⟩
      have hstep := tr.go q ai hai
      have he := h3 q (by omega) (by omega)
      simp only [isEff, opK, hai, Bool.and_eq_false_iff, Bool.not_eq_false'] at he
      obtain ⟨j1, j2⟩ := stepI_rd he.symm hstep
      exact ⟨j1.trans i1, j2.trans i2⟩
end
end Go.Am
end
section
/- A drawn region is sound. -/
set_option linter.unusedSimpArgs false
set_option linter.unusedVariables false
namespace Go.Am
open Go.RowKit
section
variable {P : Program} {N n : Nat} {c0 : Ctx} {S0 : Sto} {w0 w : World} {os : Array Oper} {as : List AI} {ps : Nat → Nat} {call : CallF} {s s' : St} {a : Act} {st : Nat → St}
theorem get_ext {s1 s2 : St} (hl : s1.l = s2.l) (ho : s1.o = s2.o) : s1.get = s2.get := by
  obtain ⟨r1, l1, o1⟩ := s1
  obtain ⟨r2, l2, o2⟩ := s2
  simp only at hl ho
  subst hl ho
  rfl
/-- Where an order stands: what is listed, and up to where the effects have come. -/
structure J (os : Array Oper) (as : List AI) (ps : Nat → Nat) (listed : Array Bool) (q : Nat) : Prop where
  size : listed.size = os.size
  clo : Clo os listed
  eff : ∀ e, e < os.size → isEff as (ps e) = true → (listed.getD e false = true ↔ ps e < q)
  le : q ≤ as.length
def stL (os : Array Oper) (s s' : St) (st : Nat → St) (listed : Array Bool) (q : Nat) : St := ⟨regsL os (getR s'.r) listed s.r, (st q).l, (st q).o⟩
theorem mem_opdTmps {t : Nat} : ∀ {xs : List Opd}, Opd.t t ∈ xs → t ∈ opdTmps xs
  | [], h => by cases h
  | .t n :: r, h => by
    simp only [opdTmps]
    rcases List.mem_cons.1 h with h | h
    · injection h with h; subst h; exact List.mem_cons_self
    · exact List.mem_cons_of_mem _ (mem_opdTmps h)
  | .k v :: r, h => by
    simp only [opdTmps]
    rcases List.mem_cons.1 h with h | h
    · cases h
    · exact mem_opdTmps h
  | .f v :: r, h => by
    simp only [opdTmps]
    rcases List.mem_cons.1 h with h | h
    · cases h
    · exact mem_opdTmps h
/-- Operands read the same at every place behind what they stand behind. -/
theorem ops_agree (pl : Plan P N os as ps) (tr : Tr call as s s' st) {listed : Array Bool} (hc : Clo os listed) {i p : Nat} (hi : i < os.size) (hun : listed.getD i false = false) (ha : ∀ q ∈ afterOf os i, listed.getD q false = true) (h1 : ps i ≤ p) (h2 : p ≤ as.length) {t : Nat} (ht : t ∈ opdTmps (opX as (ps i)) ++ opG as (ps i))
    (hw : ∀ j u, dstOf os j = some u → u ∈ opdTmps (opX as (ps i)) ++ opG as (ps i) → anc os os.size j i = true → p ≤ ps j) :
    getR (regsL os (getR s'.r) listed s.r) t = getR (st p).r t := by
  rw [getR_regsL]
  by_cases h : ∃ j, dstOf os j = some t
  · obtain ⟨j, hj⟩ := h
    rcases pl.dep i j t hj ht hi with han | han
    · have hl := anc_listed pl hc _ i j hi ha han
      have hp := (anc_pos pl _ i j hi han).2
      rw [if_pos ⟨j, hl, hj⟩]
      exact (regs_done pl tr hj (by omega) h2).symm
    · have hjl : ∀ k, dstOf os k = some t → listed.getD k false = false := by
        intro k hk
        have := pl.dst j k t hj hk
        subst this
        cases hl : listed.getD j false with
        | false => rfl
        | true =>
          have := anc_listed pl hc _ j i (dst_lt hj) (hc j (dst_lt hj) hl) han
          rw [hun] at this; cases this
      rw [if_neg (fun ⟨k, h3, h4⟩ => by rw [hjl k h4] at h3; cases h3)]
      have := regs_between pl tr (t := t) (Nat.zero_le p) h2 (fun k hk hh => by
        have := pl.dst j k t hj hk
        subst this
        have := hw j t hj ht han
        omega)
      rw [this, tr.z]
  · rw [if_neg (fun ⟨j, _, hj⟩ => h ⟨j, hj⟩)]
    exact (regs_none pl tr (fun j hj => h ⟨j, hj⟩) h2).symm
theorem listed_set {listed : Array Bool} {i j : Nat} (hs : i < listed.size) : (listed.setIfInBounds i true).getD j false = true ↔ j = i ∨ listed.getD j false = true := by
  by_cases h : i = j
  · subst h; simp [hs]
  · rw [getD_set_ne false h]; simp [Ne.symm h]
/-- One more operation, whichever is ready. -/
theorem one_more (pl : Plan P N os as ps) (tr : Tr call as s s' st) {listed : Array Bool} {q i : Nat} {ai : AI} (j : J os as ps listed q) (hi : i < os.size) (hai : as[ps i]? = some ai) (hun : listed.getD i false = false) (ha : ∀ r ∈ afterOf os i, listed.getD r false = true) :
    ∃ s2 q', stepI call (stL os s s' st listed q) ai = some s2 ∧ J os as ps (listed.setIfInBounds i true) q' ∧ (∀ t, getR (stL os s s' st (listed.setIfInBounds i true) q').r t = getR s2.r t) ∧ (st q').l = s2.l ∧ (st q').o = s2.o := by
  obtain ⟨o, ai', ho, h1, hok, hck, hd, hK, hX⟩ := op_at pl hi
  rw [hai] at h1
  simp only [Option.some.injEq] at h1
  subst h1
  have hpl := pos_le pl hi
  have hilt : i < listed.size := by rw [j.size]; exact hi
  have hstep := tr.go (ps i) ai hai
  have hw0 : ∀ j u, dstOf os j = some u → u ∈ opdTmps (opX as (ps i)) ++ opG as (ps i) → anc os os.size j i = true → ps i ≤ ps j := fun j u hj _ han => Nat.le_of_lt (anc_pos pl _ j i (dst_lt hj) han).2
  have hGm : ∀ j w, ai.g = some (j, w) → j ∈ opdTmps (opX as (ps i)) ++ opG as (ps i) := fun j w h => by simp [opG, hai, h]
  have hgeq : gate (stL os s s' st listed q) ai = gate (st (ps i)) ai := gate_eq fun j' w h => ops_agree pl tr j.clo hi hun ha (Nat.le_refl _) (by omega) (hGm j' w h) hw0
  obtain ⟨gb, hgb⟩ := gate_some hstep
  -- the listing after
  have hclo : Clo os (listed.setIfInBounds i true) := by
    intro k hk hl r hr
    rcases (listed_set hilt).1 hl with rfl | hl
    · exact (listed_set hilt).2 (.inr (ha r hr))
    · exact (listed_set hilt).2 (.inr (j.clo k hk hl r hr))
  -- no unlisted effect stands ahead
  have hahead : ∀ r, q ≤ r → r < ps i → isEff as r = false := by
    intro r hr1 hr2
    cases he : isEff as r with
    | false => rfl
    | true =>
      obtain ⟨a', ha'⟩ : ∃ a', as[r]? = some a' := ⟨_, List.getElem?_eq_getElem (by omega)⟩
      rcases pl.pos r a' ha' with ⟨h, _⟩ | ⟨e, oe, hoe, rfl⟩
      · simp [isEff, opK, ha', h] at he
      · have hes : e < os.size := (Array.getElem?_eq_some_iff.1 hoe).1
        have := anc_listed pl j.clo _ i e hi ha (pl.aft i e hi hes he hr2)
        have := (j.eff e hes he).1 this
        omega
  -- the value that it yields
  have hval : ∀ {r1 : Regs} {y : PV}, (st (ps i + 1)).r = ((st (ps i)).put ai.d y).r → ∀ t, ai.d = some t → y = getR s'.r t := by
    intro r1 y hy t ht
    have := regs_done pl tr (i := i) (t := t) (by rw [← hd]; exact ht) (Nat.lt_succ_self _) hpl
    rw [hy, ht] at this
    simpa [St.put, getR] using this
  have hregs : ∀ {s2 : St} {y : PV}, s2.r = ((stL os s s' st listed q).put ai.d y).r → (∀ t, ai.d = some t → y = getR s'.r t) → ∀ q' t, getR (stL os s s' st (listed.setIfInBounds i true) q').r t = getR s2.r t := by
    intro s2 y hs2 hy q' t
    rw [hs2]
    simp only [stL, getR_regsL]
    by_cases hdt : ai.d = some t
    · rw [if_pos ⟨i, (listed_set hilt).2 (.inl rfl), by rw [← hd]; exact hdt⟩]
      rw [← hy t hdt, hdt]
      simp [St.put, getR]
    · have e1 : (∃ k, (listed.setIfInBounds i true).getD k false = true ∧ dstOf os k = some t) ↔ ∃ k, listed.getD k false = true ∧ dstOf os k = some t := by
        constructor
        · rintro ⟨k, h1, h2⟩
          rcases (listed_set hilt).1 h1 with rfl | h1
          · rw [← hd] at h2; exact absurd h2 hdt
          · exact ⟨k, h1, h2⟩
        · rintro ⟨k, h1, h2⟩
          exact ⟨k, (listed_set hilt).2 (.inr h1), h2⟩
      have e2 : getR (St.put ⟨regsL os (getR s'.r) listed s.r, (st q).l, (st q).o⟩ ai.d y).r t = getR (regsL os (getR s'.r) listed s.r) t := by
        cases hdd : ai.d with
        | none => rfl
        | some u =>
          simp only [St.put, getR]
          rw [if_neg (fun e => hdt (by rw [hdd, e]))]
      rw [e2, getR_regsL]
      by_cases h : ∃ k, listed.getD k false = true ∧ dstOf os k = some t
      · rw [if_pos h, if_pos (e1.2 h)]
      · rw [if_neg h, if_neg (fun h' => h (e1.1 h'))]
  cases gb with
  | false =>
    -- not wanted
    rw [stepI_f hgb] at hstep
    simp only [Option.some.injEq] at hstep
    rw [stepI_f (hgeq.trans hgb)]
    have hsl : (st (ps i + 1)).l = (st (ps i)).l ∧ (st (ps i + 1)).o = (st (ps i)).o := by rw [← hstep]; cases ai.d <;> exact ⟨rfl, rfl⟩
    have hv : ∀ t, ai.d = some t → PV.non = getR s'.r t := hval (r1 := []) (by rw [← hstep])
    have hput : ((stL os s s' st listed q).put ai.d .non).l = (st q).l ∧ ((stL os s s' st listed q).put ai.d .non).o = (st q).o := by cases ai.d <;> exact ⟨rfl, rfl⟩
    by_cases hE : isEff as (ps i) = true
    · have hqi : q ≤ ps i := by
        rcases Nat.lt_or_ge (ps i) q with h | h
        · have := (j.eff i hi hE).2 h; rw [hun] at this; cases this
        · exact h
      obtain ⟨o1, o2⟩ := objs_between pl tr hqi (by omega) (fun r h1 h2 => hahead r h1 h2)
      refine ⟨_, ps i + 1, rfl, ⟨by simp [j.size], hclo, fun e he hee => ?_, by omega⟩, hregs rfl hv _, ?_, ?_⟩
      · rw [listed_set hilt, j.eff e he hee]
        constructor
        · rintro (rfl | h)
          · omega
          · omega
        · intro h
          by_cases hei : e = i
          · exact .inl hei
          · right
            have hne : ps e ≠ ps i := fun h' => hei (pl.inj e i he hi h')
            rcases Nat.lt_or_ge (ps e) q with h' | h'
            · exact h'
            · have := hahead (ps e) h' (by omega); rw [hee] at this; cases this
      · rw [hput.1, hsl.1, o1]
      · rw [hput.2, hsl.2, o2]
    · have hE' : isEff as (ps i) = false := by simpa using hE
      refine ⟨_, q, rfl, ⟨by simp [j.size], hclo, fun e he hee => ?_, j.le⟩, hregs rfl hv _, hput.1.symm, hput.2.symm⟩
      rw [listed_set hilt, j.eff e he hee]
      constructor
      · rintro (rfl | h)
        · rw [hee] at hE'; cases hE'
        · exact h
      · exact .inr
  | true =>
  rw [stepI_t hgb] at hstep
  rw [stepI_t (hgeq.trans hgb)]
  -- as the machine does it
  have direct : (st (ps i)).l = (st q).l ∧ (st (ps i)).o = (st q).o → ∃ s2, stepGo call (stL os s s' st listed q) ai = some s2 ∧ (∀ q' t, getR (stL os s s' st (listed.setIfInBounds i true) q').r t = getR s2.r t) ∧ (st (ps i + 1)).l = s2.l ∧ (st (ps i + 1)).o = s2.o := by
    rintro ⟨hl, hoo⟩
    have heq : stL os s s' st listed q = (st (ps i)).wr (regsL os (getR s'.r) listed s.r) := by
      simp only [stL, St.wr, hl, hoo]
    have hxs : ∀ x ∈ ai.xs, ((st (ps i)).wr (regsL os (getR s'.r) listed s.r)).ev x = (st (ps i)).ev x := by
      intro x hx
      cases x with
      | t u =>
        simp only [St.ev, St.wr]
        exact ops_agree pl tr j.clo hi hun ha (Nat.le_refl _) (by omega) (List.mem_append_left _ (by rw [hX]; exact mem_opdTmps hx)) hw0
      | k v => rfl
      | f v => rfl
    obtain ⟨y, hy1, hy2⟩ := stepGo_wr (call := call) (regsL os (getR s'.r) listed s.r) hxs hstep
    rw [heq]
    refine ⟨_, hy2, ?_, rfl, rfl⟩
    refine hregs (s2 := (st (ps i + 1)).wr (((st (ps i)).wr (regsL os (getR s'.r) listed s.r)).put ai.d y).r) (y := y) ?_ (hval (r1 := []) hy1)
    cases hdd : ai.d <;> rfl
  by_cases hE : isEff as (ps i) = true
  · -- an effect
    have hqi : q ≤ ps i := by
      rcases Nat.lt_or_ge (ps i) q with h | h
      · have := (j.eff i hi hE).2 h; rw [hun] at this; cases this
      · exact h
    obtain ⟨s2, g1, g2, g3, g4⟩ := direct (objs_between pl tr hqi (by omega) (fun r h1 h2 => hahead r h1 h2))
    refine ⟨s2, ps i + 1, g1, ⟨by simp [j.size], hclo, fun e he hee => ?_, by omega⟩, fun t => g2 _ t, g3, g4⟩
    rw [listed_set hilt, j.eff e he hee]
    constructor
    · rintro (rfl | h)
      · omega
      · omega
    · intro h
      by_cases hei : e = i
      · exact .inl hei
      · right
        have hne : ps e ≠ ps i := fun h' => hei (pl.inj e i he hi h')
        rcases Nat.lt_or_ge (ps e) q with h' | h'
        · exact h'
        · have := hahead (ps e) h' (by omega); rw [hee] at this; cases this
  · -- a reader
    have hE' : isEff as (ps i) = false := by simpa using hE
    have hrd : isRd ai.op = true := by simpa [isEff, hK, hck] using hE'
    have hJ : J os as ps (listed.setIfInBounds i true) q := by
      refine ⟨by simp [j.size], hclo, fun e he hee => ?_, j.le⟩
      rw [listed_set hilt, j.eff e he hee]
      constructor
      · rintro (rfl | h)
        · rw [hee] at hE'; cases hE'
        · exact h
      · exact .inr
    have hstable : (st (ps i + 1)).l = (st (ps i)).l ∧ (st (ps i + 1)).o = (st (ps i)).o := rd_shape (.inl hrd) hstep
    by_cases hq : (st (ps i)).l = (st q).l ∧ (st (ps i)).o = (st q).o
    · obtain ⟨s2, g1, g2, g3, g4⟩ := direct hq
      exact ⟨s2, q, g1, hJ, fun t => g2 _ t, by rw [← g3, hstable.1, hq.1], by rw [← g4, hstable.2, hq.2]⟩
    · -- an effect has come between: the check behind it tells
      have hlt : ps i < q := by
        rcases Nat.lt_or_ge (ps i) q with h | h
        · exact h
        · exact absurd (objs_between pl tr h (by omega) (fun r h1 h2 => hahead r h1 h2)) hq
      have hex : ∃ r, ps i ≤ r ∧ r < q ∧ isEff as r = true := by
        refine Classical.byContradiction fun hn => hq ?_
        obtain ⟨k1, k2⟩ := objs_between pl tr (Nat.le_of_lt hlt) j.le (fun r h1 h2 => by
          cases he : isEff as r with
          | false => rfl
          | true => exact absurd ⟨r, h1, h2, he⟩ hn)
        exact ⟨k1.symm, k2.symm⟩
      obtain ⟨r0, e1, e2, e3, e4⟩ := last_eff (ps i) q hex
      have hle := j.le
      obtain ⟨a', ha'⟩ : ∃ a', as[r0]? = some a' := ⟨_, List.getElem?_eq_getElem (by omega)⟩
      rcases pl.pos r0 a' ha' with ⟨h, _⟩ | ⟨e, oe, hoe, rfl⟩
      · simp [isEff, opK, ha', h] at e3
      have hes : e < os.size := (Array.getElem?_eq_some_iff.1 hoe).1
      have hle' : listed.getD e false = true := (j.eff e hes e3).2 e2
      have hne : ps i ≠ ps e := fun h => by rw [h, e3] at hE'; cases hE'
      have hcore3 : ∃ y, core1 (st q).o.length (ai.d.getD 999) (stL os s s' st listed q).get ai.op (ai.xs.map (stL os s s' st listed q).ev) = some (y, []) ∧ ∀ t, ai.d = some t → y = getR s'.r t := by
        rcases pl.fwd i e hi hes e3 hE' (by omega) with hanc | ⟨r, ca, cb, t, hca, hcb, hcd, hr1, hr2, hop, hxs, hcg, hwr⟩ | hpure
        · have := anc_listed pl j.clo _ e i hes (fun k hk => j.clo e hes hle' k hk) hanc
          rw [hun] at this; cases this
        · rw [hai] at hcb
          simp only [Option.some.injEq] at hcb
          subst hcb
          have hrlen : r < as.length := (List.getElem?_eq_some_iff.1 hca).1
          have hchk := tr.go r ca hca
          have hgr : gate (st r) ca = gate (st (ps i)) ca := by
            refine gate_eq fun j' w h => ?_
            rw [← ops_agree pl tr j.clo hi hun ha (p := r) (by omega) (by omega) (hGm j' w (by rw [← hcg]; exact h)) hwr, ← ops_agree pl tr j.clo hi hun ha (p := ps i) (Nat.le_refl _) (by omega) (hGm j' w (by rw [← hcg]; exact h)) hw0]
          have hgc : gate (st (ps i)) ca = gate (st (ps i)) ai := by unfold gate; rw [hcg]
          rw [stepI_t (hgr.trans (hgc.trans hgb))] at hchk
          -- what the check has shown
          have hcore : ∃ d, core1 (st r).o.length d (st r).get ai.op (ai.xs.map (st r).ev) = some (getR (st r).r t, []) := by
            unfold stepGo at hchk
            rw [hop] at hchk
            simp only at hchk
            split at hchk
            · rename_i v ws hc
              obtain ⟨_, x, xs, hx1, hx2⟩ := chk_spec hc
              rw [hxs] at hx1
              simp only [List.map_cons, List.cons.injEq] at hx1
              obtain ⟨rfl, rfl⟩ := hx1
              exact ⟨_, hx2⟩
            · cases hchk
          obtain ⟨dd, hcore⟩ := hcore
          have ho1 := objs_between pl tr (p := ps e + 1) (p' := r) (by omega) (by omega) (fun k h1 h2 => hr2 k (by omega) h2)
          have ho2 := objs_between pl tr (p := ps e + 1) (p' := q) (by omega) j.le (fun k h1 h2 => e4 k (by omega) h2)
          have hl : (st r).l = (st q).l := by rw [ho1.1, ho2.1]
          have hoo : (st r).o = (st q).o := by rw [ho1.2, ho2.2]
          have hget : (st r).get = (stL os s s' st listed q).get := get_ext hl hoo
          have hevs : ai.xs.map (st r).ev = ai.xs.map (stL os s s' st listed q).ev := by
            refine List.map_congr_left fun x hx => ?_
            cases x with
            | t u =>
              simp only [St.ev, stL]
              exact (ops_agree pl tr j.clo hi hun ha (by omega) (by omega) (List.mem_append_left _ (by rw [hX]; exact mem_opdTmps hx)) hwr).symm
            | k v => rfl
            | f v => rfl
          have hvt : getR (st r).r t = getR s'.r t := regs_done pl tr (i := i) (by rw [← hd]; exact hcd) (by omega) (by omega)
          rw [hget, hevs, hvt, hoo] at hcore
          exact ⟨_, (rd_core1 (d' := ai.d.getD 999) hrd hcore).2, fun t' ht' => by rw [hcd] at ht'; injection ht' with ht'; rw [ht']⟩
        · rw [hK] at hpure
          have hevs : ai.xs.map (st (ps i)).ev = ai.xs.map (stL os s s' st listed q).ev := by
            refine List.map_congr_left fun x hx => ?_
            cases x with
            | t u =>
              simp only [St.ev, stL]
              exact (ops_agree pl tr j.clo hi hun ha (Nat.le_refl _) (by omega) (List.mem_append_left _ (by rw [hX]; exact mem_opdTmps hx)) hw0).symm
            | k v => rfl
            | f v => rfl
          have hstep' := hstep
          unfold stepGo at hstep'
          split at hstep'
          · rename_i b l hop'
            rw [hop'] at hrd; simp [isRd] at hrd
          · rw [core_core1 hck] at hstep'
            split at hstep'
            · rename_i v ws hc
              simp only [Option.some.injEq] at hstep'
              have hws := (rd_core1 (d' := 0) hrd hc).1
              subst hws
              rw [hevs] at hc
              refine ⟨v, pure_core1 hpure hc, hval (r1 := []) ?_⟩
              rw [← hstep']
              rfl
            · cases hstep'
      obtain ⟨yv, hcore2, hyv⟩ := hcore3
      have hgo : stepGo call (stL os s s' st listed q) ai = some ((stL os s s' st listed q).put ai.d yv) := by
        unfold stepGo
        split
        · rename_i b l hop'
          rw [hop'] at hrd; simp [isRd] at hrd
        · rw [core_core1 hck]
          have : (stL os s s' st listed q).o.length = (st q).o.length := rfl
          rw [this, hcore2]
          rfl
      refine ⟨_, q, hgo, hJ, fun k => hregs (y := yv) rfl hyv q k, ?_, ?_⟩
      · cases hdd : ai.d <;> rfl
      · cases hdd : ai.d <;> rfl
/-- Every order. -/
theorem any_ok (hs : SoundC P call) (hlv : Lv n S0) (pl : Plan P N os as ps) (tr : Tr call as s s' st) {Q : Exit → Act → World → Prop} (hQ : ∀ a' w', Inv N c0 S0 w0 n s' a' w' → Q .normal a' w') :
    ∀ (fuel : Nat) (listed : Array Bool) (q : Nat) (a : Act) (w : World), J os as ps listed q → (List.range os.size).countP (fun i => !listed.getD i false) ≤ fuel → Inv N c0 S0 w0 n (stL os s s' st listed q) a w → wpAny P .any os Q fuel listed a w := by
  -- when nothing is ready, everything is listed
  have key : ∀ {listed : Array Bool} {q : Nat}, J os as ps listed q → (Region.ready .any os listed = [] ∨ (List.range os.size).countP (fun i => !listed.getD i false) = 0) → ∀ i, i < os.size → listed.getD i false = true := by
    intro listed q j h i hi
    refine Classical.byContradiction fun hu => ?_
    have hu : listed.getD i false = false := by simpa using hu
    rcases h with h | h
    · obtain ⟨m, ⟨hm1, hm2⟩, hm3⟩ := min_pos (ps := ps) (f := fun k => k < os.size ∧ listed.getD k false = false) (ps i) ⟨i, ⟨hi, hu⟩, Nat.le_refl _⟩
      have : m ∈ Region.ready .any os listed := by
        rw [mem_ready]
        refine ⟨?_, os[m], Array.getElem?_eq_getElem hm1, fun e he hb => ?_⟩
        · have hms : m < listed.size := by rw [j.size]; exact hm1
          simp only [Array.getD, hms, dif_pos] at hm2 ⊢
          exact hm2
        · have hmem : e.on ∈ afterOf os m := by
            simp only [afterOf, Array.getElem?_eq_getElem hm1]
            exact List.mem_map.2 ⟨e, List.mem_filter.2 ⟨Array.mem_toList_iff.2 he, hb⟩, rfl⟩
          obtain ⟨h1, h2⟩ := pl.top m e.on hm1 hmem
          cases hl : listed.getD e.on false with
          | true => rfl
          | false => have := hm3 e.on ⟨h1, hl⟩; omega
      rw [h] at this; cases this
    · have := List.countP_eq_zero.1 h i (List.mem_range.2 hi)
      simp [hu] at this
  have done : ∀ {listed : Array Bool} {q : Nat} {a : Act} {w : World}, J os as ps listed q → (∀ i, i < os.size → listed.getD i false = true) → Inv N c0 S0 w0 n (stL os s s' st listed q) a w → Q .normal a w := by
    intro listed q a w j hall inv
    refine hQ _ _ (inv.ext (fun t => ?_) ?_ ?_)
    · simp only [stL, getR_regsL]
      by_cases h : ∃ i, listed.getD i false = true ∧ dstOf os i = some t
      · rw [if_pos h]
      · rw [if_neg h, ← tr.e]
        exact regs_none pl tr (fun i hi => h ⟨i, hall i (dst_lt hi), hi⟩) (Nat.le_refl _)
    all_goals
      have := objs_between pl tr (p := q) (p' := as.length) j.le (Nat.le_refl _) (fun r h1 h2 => by
        cases he : isEff as r with
        | false => rfl
        | true =>
          obtain ⟨a', ha'⟩ : ∃ a', as[r]? = some a' := ⟨_, List.getElem?_eq_getElem h2⟩
          rcases pl.pos r a' ha' with ⟨h, _⟩ | ⟨e, oe, hoe, rfl⟩
          · simp [isEff, opK, ha', h] at he
          · have hes : e < os.size := (Array.getElem?_eq_some_iff.1 hoe).1
            have := (j.eff e hes he).1 (hall e hes)
            omega)
      rw [tr.e] at this
      first | exact this.1 | exact this.2
  intro fuel
  induction fuel with
  | zero =>
    intro listed q a w j hc inv
    have hall := key j (.inr (Nat.le_zero.1 hc))
    refine ⟨?_, done j hall inv⟩
    refine List.eq_nil_iff_forall_not_mem.2 fun i hi => ?_
    obtain ⟨h0, o, ho, _⟩ := mem_ready.1 hi
    have his : i < os.size := (Array.getElem?_eq_some_iff.1 ho).1
    have h1 := hall i his
    have hms : i < listed.size := by rw [j.size]; exact his
    simp only [Array.getD, hms, dif_pos] at h0 h1
    rw [h0] at h1; cases h1
  | succ fuel ih =>
    intro listed q a w j hc inv
    refine ⟨fun h => done j (key j (.inl h)) inv, fun i hi => ?_⟩
    obtain ⟨h0, o, ho, haft⟩ := mem_ready.1 hi
    have his : i < os.size := (Array.getElem?_eq_some_iff.1 ho).1
    have hms : i < listed.size := by rw [j.size]; exact his
    have hun : listed.getD i false = false := by
      simp only [Array.getD, hms, dif_pos] at h0 ⊢
      exact h0
    have haf : ∀ r ∈ afterOf os i, listed.getD r false = true := by
      intro r hr
      simp only [afterOf, ho] at hr
      obtain ⟨e, he, rfl⟩ := List.mem_map.1 hr
      obtain ⟨he1, he2⟩ := List.mem_filter.1 he
      exact haft e (Array.mem_toList_iff.1 he1) he2
    obtain ⟨ai, hai, hok, hck⟩ := pl.op i o ho
    obtain ⟨s2, q', h1, h2, h3, h4, h5⟩ := one_more pl tr j his hai hun haf
    unfold wpOp
    simp only [ho]
    have hcount : (List.range os.size).countP (fun k => !(listed.setIfInBounds i true).getD k false) ≤ fuel := by
      have := countP_lt (p := fun k => !listed.getD k false) (p' := fun k => !(listed.setIfInBounds i true).getD k false) (l := List.range os.size) (i := i) (fun x hx => by
        have hx' : (listed.setIfInBounds i true).getD x false = false := by simpa using hx
        have : ¬ listed.getD x false = true := fun h => by rw [(listed_set hms).2 (.inr h)] at hx'; cases hx'
        simpa using this) (List.mem_range.2 his) (by simp only [hun]; rfl) (by simp only [(listed_set hms).2 (.inl rfl)]; rfl)
      omega
    have hstep := ai_ok (Q := Q) (K := wpAny P .any os Q fuel (listed.setIfInBounds i true)) hs hlv inv hok h1 (fun a' w' inv' => ih _ q' a' w' h2 hcount (inv'.ext h3 h4 h5))
    split
    · rename_i hw; rw [if_pos hw] at hstep; exact .inl hstep
    · rename_i hw; rw [if_neg hw] at hstep; exact hstep
theorem draw_ok (hs : SoundC P call) (hlv : Lv n S0) (hm : P.follows .mixedOrders = true) (pl : Plan P N os as ps) {id : Nat} {Q : Exit → Act → World → Prop} (e : steps call s as = some s') (inv : Inv N c0 S0 w0 n s a w) (hQ : ∀ a' w', Inv N c0 S0 w0 n s' a' w' → Q .normal a' w') :
    (Code.region id os true).wp P Q a w := by
  obtain ⟨st, t1, t2, t3⟩ := trace e
  have tr : Tr call as s s' st := ⟨t1, t2, t3⟩
  refine wp_region_any hm (any_ok hs hlv pl tr hQ _ _ 0 _ _ ⟨by simp, ?_, ?_, Nat.zero_le _⟩ ?_ ?_)
  · intro i hi h
    simp [hi] at h
  · intro e he _
    simp [he]
  · exact Nat.le_trans List.countP_le_length (by simp)
  · have hinv : Inv N c0 S0 w0 n s a { w with drawn := w.drawn + 1 } := by
      obtain ⟨c, fp, sim, ha, hg, hd, hn⟩ := inv
      exact ⟨c, fp, ⟨sim.rg, sim.st, sim.df, sim.sz⟩, ha, hg.trans ⟨rfl, rfl, rfl, Nat.le_refl _, fun _ _ => rfl, Nat.le_succ _⟩, hd, hn⟩
    refine hinv.ext (fun t => ?_) (by simp [stL, tr.z]) (by simp [stL, tr.z])
    simp only [stL, getR_regsL]
    rw [if_neg]
    rintro ⟨i, h, hi⟩
    have := dst_lt hi
    simp [this] at h
end
end Go.Am
end
section
/- A drawn region in which a variable may be made at any time: the machine makes it behind all that does not need it. -/
set_option linter.unusedSimpArgs false
set_option linter.unusedVariables false
namespace Go.Am
open Go.RowKit
mutual
theorem known_all (n : Nat) : ∀ (x : PV), known (fun _ => true) n x = true
  | .undef => rfl
  | .sc _ => rfl
  | .nils => rfl
  | .sl _ _ _ => rfl
  | .iref _ _ => rfl
  | .non => rfl
  | .own _ _ => by simp [known]
  | .ref _ _ _ _ => by simp [known]
  | .sub _ _ _ => by simp [known]
  | .mp _ => by simp [known]
  | .clo _ cs => by simp only [known]; exact knowns_all n cs
  | .agg cs => by simp only [known]; exact knowns_all n cs
  | .tup cs => by simp only [known]; exact knowns_all n cs
  | .bx cs => by simp only [known]; exact knowns_all n cs
theorem knowns_all (n : Nat) : ∀ (xs : List PV), knowns (fun _ => true) n xs = true
  | [] => rfl
  | x :: xs => by simp only [knowns, known_all n x, knowns_all n xs, Bool.and_self]
end
def Ctx.withX (c : Ctx) (X : Nat → Option Obj) : Ctx := ⟨c.F, c.L, X⟩
section
variable {c : Ctx} {S : Sto} {h h' : Hp} {X : Nat → Option Obj}
theorem RVal.xch {x : PV} {v : Value} (r : RVal c S h x v) : RVal (c.withX X) S h' x v :=
  RVal.kn (c := c) (c' := c.withX X) (S := S) (S' := S) (h := h) (h' := h') (n := 0) (g := fun _ => true) (fun _ _ h => h) (fun _ _ => ⟨rfl, rfl⟩) (known_all 0 x) r
theorem RO.xch {id : Id} {ob : OB} {fp : List Nat} (hf : ∀ b ∈ fp, h' b = h b) (r : RO c S h id ob fp) : RO (c.withX X) S h' id ob fp :=
  RO.vis (c := c) (c' := c.withX X) (S := S) (S' := S) (h := h) (h' := h') (fun _ _ h => h) (fun _ _ => ⟨rfl, rfl⟩) hf r
theorem StOK.hide {fp : Id → List Nat} {w : World} (ok : StOK c S (hp w) fp) (o : Obj) : StOK (c.withX (fun x => if x = w.heap.size then some o else c.X x)) S (hp (w.alloc o)) fp := by
  refine ⟨fun id ob h => (ok.ob id ob h).xch fun b hb => hp_alloc_old (by have := ok.lt h hb; omega), ok.nd, ok.dj, fun id ob h b hb => ?_, fun b o' h => ?_, fun b o' h => ?_⟩
  · have hu := ok.nF id ob h b hb
    have := ok.lt h hb
    refine ⟨hu.1, ?_⟩
    show (if b = w.heap.size then some o else c.X b) = none
    rw [if_neg (by omega)]; exact hu.2
  · by_cases e : b = w.heap.size
    · subst e
      rcases h with h | h
      · have := hp_lt (ok.okF _ _ (.inl h)); omega
      · have h : (if w.heap.size = w.heap.size then some o else c.X w.heap.size) = some o' := h
        rw [if_pos rfl] at h
        rw [← h]; exact hp_alloc_new
    · have h' : c.F b = some o' ∨ c.X b = some o' := by
        rcases h with h | h
        · exact .inl h
        · right
          have h : (if b = w.heap.size then some o else c.X b) = some o' := h
          rwa [if_neg e] at h
      rw [hp_alloc_old e]; exact ok.okF b o' h'
  · show (if b = w.heap.size then some o else c.X b) = none
    have h : c.F b = some o' := h
    have hne : b ≠ w.heap.size := fun e => by
      subst e
      have := hp_lt (ok.okF _ _ (.inl h)); omega
    rw [if_neg hne]; exact ok.dis b o' h
theorem StOK.unhide {fp : Id → List Nat} (ok : StOK c S h fp) (hX : ∀ b o, X b = some o → c.X b = some o) : StOK (c.withX X) S h fp := by
  have key : ∀ b, c.X b = none → X b = none := fun b hb => by
    cases hx : X b with
    | none => rfl
    | some o => have := hX b o hx; rw [hb] at this; cases this
  exact ⟨fun id ob e => (ok.ob id ob e).xch (fun _ _ => rfl), ok.nd, ok.dj, fun id ob e b hb => ⟨(ok.nF id ob e b hb).1, key b (ok.nF id ob e b hb).2⟩,
    fun b o e => ok.okF b o (e.elim .inl fun e => .inr (hX b o e)), fun b o e => key b (ok.dis b o e)⟩
end
/-- A variable stands there that the machine does not know yet. -/
def HInv (N : Nat) (c0 : Ctx) (S0 : Sto) (w0 : World) (n dA : Nat) (z : List PV) (s : St) (a : Act) (w : World) : Prop :=
  ∃ (cA : Ctx) (b : Nat) (vs : List Value) (t : TypeId) (S1 : Sto) (w1 : World),
    cA.U b ∧ Adv c0 cA S0 S1 ∧ Grew w0 w1 ∧ (∀ id ob, S1 id = some ob → ∃ ob', S0 id = some ob') ∧ Lv n S1 ∧
    z.all cellP = true ∧ upTos n z = true ∧ (∀ c S h, Rs c S h z vs []) ∧
    Inv N (cA.withX fun x => if x = b then some (.cells vs.toArray t) else cA.X x) S1 w1 n ⟨(dA, .sc (.pointer (some ⟨b, 0, none⟩))) :: s.r, s.l, s.o⟩ a w
section
variable {P : Program} {N n : Nat} {c0 : Ctx} {S0 : Sto} {w0 w : World} {call : CallF} {s s2 : St} {a : Act} {dA : Nat} {z : List PV}
theorem HInv.ext {s1 : St} (h : HInv N c0 S0 w0 n dA z s a w) (hr : ∀ t, getR s1.r t = getR s.r t) (hl : s1.l = s.l) (ho : s1.o = s.o) : HInv N c0 S0 w0 n dA z s1 a w := by
  obtain ⟨cA, b, vs, t, S1, w1, h1, h2, h3, h4, h5, h6, h7, h8, h9⟩ := h
  refine ⟨cA, b, vs, t, S1, w1, h1, h2, h3, h4, h5, h6, h7, h8, h9.ext (fun u => ?_) hl ho⟩
  simp only [getR]
  split
  · rfl
  · exact hr u
/-- It is made early. -/
theorem Inv.early (inv : Inv N c0 S0 w0 n s a w) (hlv : Lv n S0) {t : TypeId} (hz : zeroOK P t z = true) (hd : dA < N) {o : Oper} (hop : o.op = .alloc t) (hdst : o.dst = some dA) {K : Act → World → Prop} {Q : Exit → Act → World → Prop}
    (hK : ∀ a' w', HInv N c0 S0 w0 n dA z s a' w' → K a' w') : o.wp P a w K Q := by
  unfold zeroOK at hz
  split at hz
  · rename_i i hi
    split at hz
    · rename_i v hv
      obtain ⟨c, fp, sim, ha, hg, hdom, hn⟩ := inv
      obtain ⟨_, hc, ht⟩ := litsOK_R (c := c) (S := s.get) (h := hp w) hz
      have hgs : gt s.o = hideS s.get n := by rw [gt_get, hn]
      have fb := fresh_block sim.st
      have hrun : (execOp a.eval o).run P w = .ok (.value (.pointer (some ⟨w.heap.size, 0, none⟩))) (w.alloc (.cells v.cells t)) := by
        obtain ⟨dst, op, type, pos, after, guard⟩ := o
        simp only at hop
        subst hop
        show (do pure (Next.value (← Instr.alloc t true (.tuple #[]))) : Sem Next).run P w = _
        simp [Instr.alloc, run_newVar, zeroValue, typeInfo, hi, hv]
      unfold Oper.wp
      rw [hrun]
      show K (a.put o.dst _) _
      rw [hdst]
      refine hK _ _ ⟨c, w.heap.size, v.cells.toList, t, gt s.o, w.alloc (.cells v.cells t), fb.1, ⟨ha.F, ha.X, fun id ob h => ?_⟩, hg.trans (Grew.alloc w _), fun id ob h => ?_, by rw [← hn]; exact gt_lv s.o, hc, upTos_trees ht, fun c S h => (litsOK_R hz).1, ?_⟩
      · obtain ⟨ob', h1, h2⟩ := ha.st id ob h
        refine ⟨ob', ?_, h2⟩
        have := hlv id ob h
        rw [hgs]
        simp only [hideS, this, if_true]
        exact h1
      · rw [hgs] at h
        simp only [hideS] at h
        split at h
        · rename_i hlt
          rcases hdom id ob h with e | e
          · omega
          · exact e
        · cases h
      · have hcell : v.cells.toList.toArray = v.cells := by simp
        rw [hcell]
        refine ⟨_, fp, ⟨fun u => ?_, sim.st.hide _, sim.df, by simpa [Act.put] using sim.sz⟩, ⟨fun _ _ h => h, rfl, fun id ob h => ⟨ob, ?_, StepOB.rfl' rfl⟩⟩, Grew.refl _, fun id ob h => ?_, hn⟩
        · rw [put_tmps hd sim.sz]
          simp only [getR]
          by_cases e : dA = u
          · rw [if_pos e, if_pos e]
            exact ⟨rfl, rfl, rfl⟩
          · rw [if_neg e, if_neg e]
            exact RVal.xch (sim.rg u)
        · show s.get id = some ob
          rw [hgs] at h
          simp only [hideS] at h
          split at h
          · exact h
          · cases h
        · have h : s.get id = some ob := h
          have hle := get_lvl h
          rw [hn] at hle
          rcases Nat.lt_or_eq_of_le hle with h2 | h2
          · right
            refine ⟨ob, ?_⟩
            rw [hgs]
            simp only [hideS, h2, if_true]
            exact h
          · exact .inl h2
    · cases hz
  · cases hz
/-- The other operations go on. -/
theorem HInv.step (hs : SoundC P call) {ops : Array Oper} {ai : AI} {o : Oper} {K : Act → World → Prop} {Q : Exit → Act → World → Prop} (inv : HInv N c0 S0 w0 n dA z s a w) (hk : okAI P N ops ai o = true) (hx : dA ∉ opdTmps ai.xs) (hg : ∀ j b, ai.g = some (j, b) → j ≠ dA) (hdd : ai.d ≠ some dA) (e : stepI call s ai = some s2)
    (hK : ∀ a' w', HInv N c0 S0 w0 n dA z s2 a' w' → K a' w') : if Region.wanted o (yielded ops a.tmps) = true then o.wp P a w K Q else K (a.put o.dst undef) w := by
  obtain ⟨cA, b, vs, t, S1, w1, h1, h2, h3, h4, h5, h6, h7, h8, h9⟩ := inv
  obtain ⟨gb, hgb⟩ := gate_some e
  have hev : ∀ x ∈ ai.xs, (s.wr ((dA, .sc (.pointer (some ⟨b, 0, none⟩))) :: s.r)).ev x = s.ev x := by
    intro x hxx
    cases x with
    | t u =>
      simp only [St.ev, St.wr, getR]
      rw [if_neg]
      intro e
      subst e
      exact hx (mem_opdTmps hxx)
    | k v => rfl
    | f v => rfl
  have hgate : gate (s.wr ((dA, .sc (.pointer (some ⟨b, 0, none⟩))) :: s.r)) ai = gate s ai := gate_eq fun j w hj => by
    simp only [St.wr, getR]
    rw [if_neg (Ne.symm (hg j w hj))]
  have hreg : ∀ (y : PV) (u : Nat), getR ((s.wr ((dA, .sc (.pointer (some ⟨b, 0, none⟩))) :: s.r)).put ai.d y).r u = getR ((dA, .sc (.pointer (some ⟨b, 0, none⟩))) :: (s.put ai.d y).r) u := by
    intro y u
    cases hd : ai.d with
    | none => rfl
    | some d =>
      have hne : d ≠ dA := fun e => hdd (by rw [hd, e])
      simp only [St.put, St.wr, getR]
      by_cases e1 : d = u
      · have e2 : ¬ dA = u := fun e => hne (by omega)
        simp only [e1, e2, if_true, if_false]
      · by_cases e2 : dA = u
        · simp only [e1, e2, if_true, if_false]
        · simp only [e1, e2, if_false]
  have hst : ∃ y, s2.r = (s.put ai.d y).r ∧ stepI call (s.wr ((dA, .sc (.pointer (some ⟨b, 0, none⟩))) :: s.r)) ai = some (s2.wr ((s.wr ((dA, .sc (.pointer (some ⟨b, 0, none⟩))) :: s.r)).put ai.d y).r) := by
    cases gb with
    | true =>
      rw [stepI_t hgb] at e
      rw [stepI_t (hgate.trans hgb)]
      exact stepGo_wr _ hev e
    | false =>
      rw [stepI_f hgb] at e
      rw [stepI_f (hgate.trans hgb)]
      simp only [Option.some.injEq] at e
      subst e
      refine ⟨.non, rfl, ?_⟩
      cases ai.d <;> rfl
  obtain ⟨y, e1, e2⟩ := hst
  refine ai_ok hs h5 h9 hk e2 fun a' w' inv' => hK _ _ ⟨cA, b, vs, t, S1, w1, h1, h2, h3, h4, h5, h6, h7, h8, inv'.ext (fun u => ?_) rfl rfl⟩
  have := hreg y u
  simp only [St.wr] at this ⊢
  rw [this]
  simp only [getR]
  rw [e1]
/-- The machine makes it, too. -/
theorem HInv.settle (inv : HInv N c0 S0 w0 n dA z s a w) (hfr : s.get (n, dA) = none) (hd : dA < N) : s.o.length = n ∧ Inv N c0 S0 w0 n ((s.set (n, dA) (.box z)).put (some dA) (.ref (n, dA) 1 0 0)) a w := by
  obtain ⟨cA, b, vs, t, S1, w1, h1, h2, h3, h4, h5, h6, h7, h8, c, fp, sim, ha, hg, hdom, hn⟩ := inv
  have hn : s.o.length = n := hn
  refine ⟨hn, ?_⟩
  have hget : (⟨(dA, .sc (.pointer (some ⟨b, 0, none⟩))) :: s.r, s.l, s.o⟩ : St).get = s.get := rfl
  rw [hget] at ha
  have hdom : ∀ id ob, s.get id = some ob → id.1 = n ∨ ∃ ob', S1 id = some ob' := hdom
  have hst : StOK c s.get (hp w) fp := sim.st
  have hX : c.X = fun x => if x = b then some (.cells vs.toArray t) else cA.X x := ha.X
  have hXb : c.X b = some (.cells vs.toArray t) := by rw [hX]; simp
  have hb : hp w b = some (.cells vs.toArray t) := hst.okF b _ (.inr hXb)
  have hFb : c.F b = none := by
    cases h : c.F b with
    | none => rfl
    | some o => have := hst.dis b o h; rw [hXb] at this; cases this
  have hst2 : StOK (c.withX cA.X) s.get (hp w) fp := hst.unhide fun x o h => by
    rw [hX]
    show (if x = b then _ else _) = _
    rw [if_neg, h]
    intro e
    subst e
    rw [h1.2] at h; cases h
  have hfb : ∀ id ob, s.get id = some ob → b ∉ fp id := fun id ob h hm => by
    have := (hst.nF id ob h b hm).2
    rw [hXb] at this; cases this
  have hid : ∀ ws : List (Id × OB), ws = [((n, dA), OB.box z)] → ∀ x ∈ ws, x.1.1 ≤ s.o.length := fun ws e x hx => by
    subst e
    simp only [List.mem_singleton] at hx
    subst hx
    exact Nat.le_of_eq hn.symm
  have hgs : (s.set (n, dA) (.box z)).get = upd s.get (n, dA) (.box z) := by
    have := get_sets [((n, dA), .box z)] s (hid _ rfl)
    simpa [St.sets, upds] using this
  have hadv : Adv (c.withX cA.X) (setL (c.withX cA.X) (n, dA) ⟨b, none, 0⟩) s.get (upd s.get (n, dA) (.box z)) := Adv.new hfr
  have hst3 : StOK (setL (c.withX cA.X) (n, dA) ⟨b, none, 0⟩) (upd s.get (n, dA) (.box z)) (hp w) (setF fp (n, dA) [b]) := by
    refine hst2.step hadv (fun x => x = (n, dA)) ?_ ?_ (fun b o h => hst2.okF b o h) hst2.dis
    · intro x ob' hx hne
      have hx' : s.get x = some ob' := by simpa [upd, hne] using hx
      exact ⟨hx', by simp [setL, hne], by simp [setF, hne], fun b hb => ⟨rfl, hst2.nF x ob' hx' b hb⟩⟩
    · rintro x ob' hx rfl
      have he : ob' = .box z := by simpa [upd, eq_comm] using hx
      subst he
      refine ⟨?_, by simp [setF], fun b' hb' => ?_, fun id' ob'' hne hs b' hb' => ?_⟩
      · refine ⟨vs.toArray, t, ?_, h6, by simpa using h8 _ _ _, ?_⟩
        · simp only [setL, if_true]; exact hb
        · simp [setL, setF, h7]
      · simp only [setF, if_true, List.mem_singleton] at hb'
        subst hb'
        exact ⟨hFb, h1.2⟩
      · simp only [setF, if_true, List.mem_singleton] at hb'
        subst hb'
        simp only [setF, hne, if_false]
        exact hfb id' ob'' (by simpa [upd, hne] using hs)
  have hlen : (s.set (n, dA) (.box z)).o.length = n := by
    have := sets_o_length [((n, dA), .box z)] s
    simpa [St.sets, hn] using this
  refine ⟨_, _, ⟨fun u => ?_, by rw [get_put, hgs]; exact hst3, sim.df, sim.sz⟩, ⟨fun x o h => ?_, ?_, fun id ob h => ?_⟩, h3.trans hg, fun id ob h => ?_, by rw [put_o]; exact hlen⟩
  · rw [get_put, hgs]
    have hsr : (s.set (n, dA) (.box z)).r = s.r := by unfold St.set; split <;> rfl
    simp only [St.put, getR, hsr]
    have hu := sim.rg u
    simp only [getR] at hu
    by_cases e : dA = u
    · rw [if_pos e] at hu ⊢
      have hv := sc_eq hu
      rw [hv]
      exact ⟨rfl, _, rfl, rfl, by simp [RefOK, upd, setL]⟩
    · rw [if_neg e] at hu ⊢
      have := RVal.xch (X := cA.X) (h' := hp w) hu
      exact this.adv hadv
  · exact ha.F x o (h2.F x o h)
  · exact h2.X
  · rw [get_put, hgs]
    obtain ⟨ob1, g1, g2⟩ := h2.st id ob h
    obtain ⟨ob2, g3, g4⟩ := ha.st id ob1 g1
    have hne : id ≠ (n, dA) := fun e => by rw [e] at g3; rw [hfr] at g3; cases g3
    refine ⟨ob2, by simp [upd, hne, g3], ?_⟩
    have g4' : StepOB cA (c.withX cA.X) id ob1 ob2 := g4
    exact (g2.trans g4').trans (StepOB.rfl' (by simp [setL, hne]))
  · rw [get_put, hgs] at h
    by_cases e : id = (n, dA)
    · left; rw [e]
    · have h' : s.get id = some ob := by simpa [upd, e] using h
      rcases hdom id ob h' with k | ⟨ob', k⟩
      · exact .inl k
      · exact .inr (h4 id ob' k)
end
end Go.Am
end
section
/- Every order of a drawn region with a variable made at any time comes to the machine's end. -/
set_option linter.unusedSimpArgs false
set_option linter.unusedVariables false
namespace Go.Am
open Go.RowKit
theorem okOp_alloc {P : Program} {z : List PV} {op : Op} (h : okOp P (.alloc z) op = true) : ∃ t, op = .alloc t ∧ zeroOK P t z = true := by
  cases op <;> first
    | exact ⟨_, rfl, h⟩
    | exact absurd h Bool.false_ne_true
    | (exfalso
       unfold okOp at h
       simp only at h
       split at h <;> first | (cases h; done) | (unfold okBuiltin at h; split at h <;> first | (cases h; done) | (rename_i e; cases e; done) | (rename_i e _; cases e; done) | (rename_i e _ _; cases e; done) | (simp_all; done)))
/-- `os'` is the region in which the variable `iA` is made behind all that does not need it. -/
structure Late (P : Program) (N : Nat) (os os' : Array Oper) (as : List AI) (ps : Nat → Nat) (iA dA : Nat) (z : List PV) : Prop where
  sz : os'.size = os.size
  same : ∀ i, i ≠ iA → os'[i]? = os[i]?
  lt : iA < os.size
  sub : ∀ r ∈ afterOf os iA, r ∈ afterOf os' iA
  dep : ∀ i, i < os.size → iA ∈ afterOf os i → ∀ r ∈ afterOf os' iA, r ∈ afterOf os i
  ok : ∀ i o ai, os[i]? = some o → as[ps i]? = some ai → okAI P N os ai o = true
  ai : as[ps iA]? = some ⟨some dA, .alloc z, [], none⟩
  rd : ∀ i, i < os.size → ps i < ps iA → dA ∉ opdTmps (opX as (ps i)) ++ opG as (ps i)
section
variable {P : Program} {N n : Nat} {c0 : Ctx} {S0 : Sto} {w0 w : World} {os os' : Array Oper} {as : List AI} {ps : Nat → Nat} {call : CallF} {s s' : St} {a : Act} {st : Nat → St} {iA dA : Nat} {z : List PV}
theorem Late.aft (L : Late P N os os' as ps iA dA z) {i : Nat} (h : i ≠ iA) : afterOf os' i = afterOf os i := by simp only [afterOf, L.same i h]
theorem Late.top (L : Late P N os os' as ps iA dA z) (pl : Plan P N os' as ps) {i r : Nat} (hi : i < os.size) (hr : r ∈ afterOf os i) : r < os.size ∧ ps r < ps i := by
  have hi' : i < os'.size := by rw [L.sz]; exact hi
  rw [← L.sz]
  by_cases h : i = iA
  · subst h; exact pl.top i r hi' (L.sub r hr)
  · exact pl.top i r hi' (by rw [L.aft h]; exact hr)
theorem Late.all (L : Late P N os os' as ps iA dA z) (pl : Plan P N os' as ps) {listed : Array Bool} (hsz : listed.size = os.size) (h : Region.ready .any os listed = [] ∨ (List.range os.size).countP (fun i => !listed.getD i false) = 0) : ∀ i, i < os.size → listed.getD i false = true := by
  intro i hi
  refine Classical.byContradiction fun hu => ?_
  have hu : listed.getD i false = false := by simpa using hu
  rcases h with h | h
  · obtain ⟨m, ⟨hm1, hm2⟩, hm3⟩ := min_pos (ps := ps) (f := fun k => k < os.size ∧ listed.getD k false = false) (ps i) ⟨i, ⟨hi, hu⟩, Nat.le_refl _⟩
    have : m ∈ Region.ready .any os listed := by
      rw [mem_ready]
      refine ⟨?_, os[m], Array.getElem?_eq_getElem hm1, fun e he hb => ?_⟩
      · have hms : m < listed.size := by rw [hsz]; exact hm1
        simp only [Array.getD, hms, dif_pos] at hm2 ⊢
        exact hm2
      · have hmem : e.on ∈ afterOf os m := by
          simp only [afterOf, Array.getElem?_eq_getElem hm1]
          exact List.mem_map.2 ⟨e, List.mem_filter.2 ⟨Array.mem_toList_iff.2 he, hb⟩, rfl⟩
        obtain ⟨h1, h2⟩ := L.top pl hm1 hmem
        cases hl : listed.getD e.on false with
        | true => rfl
        | false => have := hm3 e.on ⟨h1, hl⟩; omega
    rw [h] at this; cases this
  · have := List.countP_eq_zero.1 h i (List.mem_range.2 hi)
    simp [hu] at this
theorem HInv.len (inv : HInv N c0 S0 w0 n dA z s a w) : s.o.length = n := by
  obtain ⟨cA, b, vs, t, S1, w1, h1, h2, h3, h4, h5, h6, h7, h8, c, fp, sim, ha, hg, hdom, hn⟩ := inv
  exact hn
/-- The step at which the machine makes it. -/
theorem Late.made (L : Late P N os os' as ps iA dA z) (tr : Tr call as s s' st) : (st (ps iA)).get ((st (ps iA)).o.length, dA) = none ∧ st (ps iA + 1) = ((st (ps iA)).set ((st (ps iA)).o.length, dA) (.box z)).put (some dA) (.ref ((st (ps iA)).o.length, dA) 1 0 0) := by
  have h := tr.go _ _ L.ai
  rw [stepI_t (by rfl)] at h
  unfold stepGo at h
  simp only [List.map_nil, Option.getD_some] at h
  rw [core_core1 (by rfl)] at h
  simp only [core1] at h
  split at h
  · rename_i v ws hc
    split at hc
    · rename_i hn
      simp only [Option.some.injEq, Prod.mk.injEq] at hc h
      obtain ⟨rfl, rfl⟩ := hc
      exact ⟨by simpa using hn, by rw [← h]; rfl⟩
    · cases hc
  · cases h
theorem late_settle (L : Late P N os os' as ps iA dA z) (pl : Plan P N os' as ps) (tr : Tr call as s s' st) {listed0 listed : Array Bool} {q : Nat} (j : J os' as ps listed0 q) (hu : listed0.getD iA false = false) (hls : listed.size = os'.size) (hl : ∀ k, listed.getD k false = true ↔ k = iA ∨ listed0.getD k false = true)
    (haf : ∀ r ∈ afterOf os' iA, listed0.getD r false = true) (hdN : dA < N) (inv : HInv N c0 S0 w0 n dA z (stL os' s s' st listed0 q) a w) : J os' as ps listed (ps iA + 1) ∧ Inv N c0 S0 w0 n (stL os' s s' st listed (ps iA + 1)) a w := by
  have hiA : iA < os'.size := by rw [L.sz]; exact L.lt
  obtain ⟨oA, aiA, hoA, haiA, hokA, hckA, hdA, hKA, hXA⟩ := op_at pl hiA
  have haiE := haiA
  rw [L.ai] at haiE
  simp only [Option.some.injEq] at haiE
  subst haiE
  have hpl := pos_le pl hiA
  have hdst : dstOf os' iA = some dA := hdA.symm
  have hE : isEff as (ps iA) = true := by simp only [isEff, hKA]; rfl
  have hq : q ≤ ps iA := by
    rcases Nat.lt_or_ge (ps iA) q with h | h
    · have := (j.eff iA hiA hE).2 h; rw [hu] at this; cases this
    · exact h
  have hbefore : ∀ e, e < os'.size → isEff as (ps e) = true → ps e < ps iA → ps e < q := fun e he hee h =>
    (j.eff e he hee).1 (anc_listed pl j.clo _ iA e hiA haf (pl.aft iA e hiA he hee h))
  have hobj := objs_between pl tr hq (Nat.le_of_lt hpl) fun r h1 h2 => by
    cases he : isEff as r with
    | false => rfl
    | true =>
      obtain ⟨a', ha'⟩ : ∃ a', as[r]? = some a' := ⟨_, List.getElem?_eq_getElem (by omega)⟩
      rcases pl.pos r a' ha' with ⟨h, _⟩ | ⟨e, oe, hoe, rfl⟩
      · simp [isEff, opK, ha', h] at he
      · have := hbefore e (Array.getElem?_eq_some_iff.1 hoe).1 he h2
        omega
  refine ⟨⟨hls, ?_, fun e he hee => ?_, hpl⟩, ?_⟩
  · intro k hk hkl r hr
    rcases (hl k).1 hkl with rfl | hkl
    · exact (hl r).2 (.inr (haf r hr))
    · exact (hl r).2 (.inr (j.clo k hk hkl r hr))
  · rw [hl]
    constructor
    · rintro (rfl | h)
      · omega
      · have := (j.eff e he hee).1 h
        omega
    · intro h
      by_cases hei : e = iA
      · exact .inl hei
      · have hne : ps e ≠ ps iA := fun h' => hei (pl.inj e iA he hiA h')
        exact .inr ((j.eff e he hee).2 (hbefore e he hee (by omega)))
  · obtain ⟨hfr, hmk⟩ := L.made tr
    have hlen := inv.len
    have hlen2 : (st (ps iA)).o.length = n := by rw [hobj.2]; exact hlen
    have hget : (stL os' s s' st listed0 q).get = (st (ps iA)).get := get_ext hobj.1.symm hobj.2.symm
    rw [hlen2] at hfr hmk
    obtain ⟨_, hinv⟩ := inv.settle (by rw [hget]; exact hfr) hdN
    refine hinv.ext (fun t => ?_) ?_ ?_
    · have hsr : ∀ (x : St) id ob, (x.set id ob).r = x.r := fun x id ob => by unfold St.set; split <;> rfl
      have hval : getR s'.r dA = .ref (n, dA) 1 0 0 := by
        have := regs_done pl tr (i := iA) (t := dA) hdst (Nat.lt_succ_self _) hpl
        rw [← this, hmk]
        simp [St.put, getR]
      simp only [St.put, getR, hsr]
      simp only [stL, getR_regsL]
      by_cases e : dA = t
      · subst e
        rw [if_pos rfl, if_pos ⟨iA, (hl iA).2 (.inl rfl), hdst⟩]
        exact hval
      · rw [if_neg e]
        have e1 : (∃ k, listed.getD k false = true ∧ dstOf os' k = some t) ↔ ∃ k, listed0.getD k false = true ∧ dstOf os' k = some t := by
          constructor
          · rintro ⟨k, h1, h2⟩
            rcases (hl k).1 h1 with rfl | h1
            · rw [hdst] at h2; injection h2 with h2; exact absurd h2 e
            · exact ⟨k, h1, h2⟩
          · rintro ⟨k, h1, h2⟩
            exact ⟨k, (hl k).2 (.inr h1), h2⟩
        by_cases h : ∃ k, listed0.getD k false = true ∧ dstOf os' k = some t
        · rw [if_pos h, if_pos (e1.2 h)]
        · rw [if_neg h, if_neg (fun h' => h (e1.1 h'))]
    · show (st (ps iA + 1)).l = _
      rw [hmk]
      simp only [St.put, St.set, hlen2, if_true, stL, show (st q).o.length = n from hlen]
      rw [hobj.1]
    · show (st (ps iA + 1)).o = _
      rw [hmk]
      simp only [St.put, St.set, hlen2, if_true, stL, show (st q).o.length = n from hlen]
      rw [hobj.2]
/-- Every order. -/
theorem late_any (hs : SoundC P call) (hlv : Lv n S0) (L : Late P N os os' as ps iA dA z) (pl : Plan P N os' as ps) (tr : Tr call as s s' st) {Q : Exit → Act → World → Prop} (hQ : ∀ a' w', Inv N c0 S0 w0 n s' a' w' → Q .normal a' w') :
    ∀ (fuel : Nat) (listed : Array Bool) (a : Act) (w : World), listed.size = os.size →
      ((∃ q, J os' as ps listed q ∧ Inv N c0 S0 w0 n (stL os' s s' st listed q) a w) ∨
       (∃ listed0 q, J os' as ps listed0 q ∧ listed0.getD iA false = false ∧ (∀ k, listed.getD k false = true ↔ k = iA ∨ listed0.getD k false = true) ∧ HInv N c0 S0 w0 n dA z (stL os' s s' st listed0 q) a w)) →
      (List.range os.size).countP (fun i => !listed.getD i false) ≤ fuel → wpAny P .any os Q fuel listed a w := by
  have hiA : iA < os'.size := by rw [L.sz]; exact L.lt
  obtain ⟨oA, aiA, hoA', haiA, hokA, hckA, hdA, hKA, hXA⟩ := op_at pl hiA
  have haiE := haiA
  rw [L.ai] at haiE
  simp only [Option.some.injEq] at haiE
  subst haiE
  have hdst : dstOf os' iA = some dA := hdA.symm
  have hdN : dA < N := by
    simp only [okAI, Bool.and_eq_true] at hokA
    exact okDst_spec hokA.1.1.1.2 dA rfl
  -- the end
  have done : ∀ {listed : Array Bool} {q : Nat} {a : Act} {w : World}, J os' as ps listed q → (∀ i, i < os.size → listed.getD i false = true) → Inv N c0 S0 w0 n (stL os' s s' st listed q) a w → Q .normal a w := by
    intro listed q a w j hall inv
    refine hQ _ _ (inv.ext (fun t => ?_) ?_ ?_)
    · simp only [stL, getR_regsL]
      by_cases h : ∃ i, listed.getD i false = true ∧ dstOf os' i = some t
      · rw [if_pos h]
      · rw [if_neg h, ← tr.e]
        exact regs_none pl tr (fun i hi => h ⟨i, hall i (by rw [← L.sz]; exact dst_lt hi), hi⟩) (Nat.le_refl _)
    all_goals
      have := objs_between pl tr (p := q) (p' := as.length) j.le (Nat.le_refl _) (fun r h1 h2 => by
        cases he : isEff as r with
        | false => rfl
        | true =>
          obtain ⟨a', ha'⟩ : ∃ a', as[r]? = some a' := ⟨_, List.getElem?_eq_getElem h2⟩
          rcases pl.pos r a' ha' with ⟨h, _⟩ | ⟨e, oe, hoe, rfl⟩
          · simp [isEff, opK, ha', h] at he
          · have hes : e < os'.size := (Array.getElem?_eq_some_iff.1 hoe).1
            have := (j.eff e hes he).1 (hall e (by rw [← L.sz]; exact hes))
            omega)
      rw [tr.e] at this
      first | exact this.1 | exact this.2
  -- settled, or an operation is missing ahead of it
  have settle : ∀ {listed : Array Bool} {a : Act} {w : World}, listed.size = os.size →
      ((∃ q, J os' as ps listed q ∧ Inv N c0 S0 w0 n (stL os' s s' st listed q) a w) ∨
       (∃ listed0 q, J os' as ps listed0 q ∧ listed0.getD iA false = false ∧ (∀ k, listed.getD k false = true ↔ k = iA ∨ listed0.getD k false = true) ∧ HInv N c0 S0 w0 n dA z (stL os' s s' st listed0 q) a w)) →
      ((∃ q, J os' as ps listed q ∧ Inv N c0 S0 w0 n (stL os' s s' st listed q) a w) ∨
       (∃ listed0 q, J os' as ps listed0 q ∧ listed0.getD iA false = false ∧ (∀ k, listed.getD k false = true ↔ k = iA ∨ listed0.getD k false = true) ∧ HInv N c0 S0 w0 n dA z (stL os' s s' st listed0 q) a w ∧ ∃ r ∈ afterOf os' iA, listed0.getD r false = false)) := by
    intro listed a w hsz h
    rcases h with h | ⟨listed0, q, j, hu, hl, inv⟩
    · exact .inl h
    · by_cases haf : ∀ r ∈ afterOf os' iA, listed0.getD r false = true
      · have := late_settle L pl tr j hu (by rw [L.sz]; exact hsz) hl haf hdN inv
        exact .inl ⟨_, this⟩
      · refine .inr ⟨listed0, q, j, hu, hl, inv, ?_⟩
        refine Classical.byContradiction fun hn => haf fun r hr => ?_
        cases hx : listed0.getD r false with
        | true => rfl
        | false => exact absurd ⟨r, hr, hx⟩ hn
  -- nothing is left
  have fin0 : ∀ {listed : Array Bool} {a : Act} {w : World}, listed.size = os.size → (∀ i, i < os.size → listed.getD i false = true) →
      ((∃ q, J os' as ps listed q ∧ Inv N c0 S0 w0 n (stL os' s s' st listed q) a w) ∨
       (∃ listed0 q, J os' as ps listed0 q ∧ listed0.getD iA false = false ∧ (∀ k, listed.getD k false = true ↔ k = iA ∨ listed0.getD k false = true) ∧ HInv N c0 S0 w0 n dA z (stL os' s s' st listed0 q) a w)) → Q .normal a w := by
    intro listed a w hsz hall h
    rcases settle hsz h with ⟨q, j, inv⟩ | ⟨listed0, q, j, hu, hl, inv, r, hr, hx⟩
    · exact done j hall inv
    · obtain ⟨h1, h2⟩ := pl.top iA r hiA hr
      have := (hl r).1 (hall r (by rw [← L.sz]; exact h1))
      rcases this with rfl | this
      · omega
      · rw [hx] at this; cases this
  intro fuel
  induction fuel with
  | zero =>
    intro listed a w hsz h hc
    have hall := L.all pl hsz (.inr (Nat.le_zero.1 hc))
    refine ⟨?_, fin0 hsz hall h⟩
    refine List.eq_nil_iff_forall_not_mem.2 fun i hi => ?_
    obtain ⟨h0, o, ho, _⟩ := mem_ready.1 hi
    have his : i < os.size := (Array.getElem?_eq_some_iff.1 ho).1
    have h1 := hall i his
    have hms : i < listed.size := by rw [hsz]; exact his
    simp only [Array.getD, hms, dif_pos] at h0 h1
    rw [h0] at h1; cases h1
  | succ fuel ih =>
    intro listed a w hsz h hc
    refine ⟨fun hr => fin0 hsz (L.all pl hsz (.inl hr)) h, fun i hi => ?_⟩
    obtain ⟨h0, o, ho, haft⟩ := mem_ready.1 hi
    have his : i < os.size := (Array.getElem?_eq_some_iff.1 ho).1
    have his' : i < os'.size := by rw [L.sz]; exact his
    have hms : i < listed.size := by rw [hsz]; exact his
    have hun : listed.getD i false = false := by
      simp only [Array.getD, hms, dif_pos] at h0 ⊢
      exact h0
    have haf : ∀ r ∈ afterOf os i, listed.getD r false = true := by
      intro r hr
      simp only [afterOf, ho] at hr
      obtain ⟨e, he, rfl⟩ := List.mem_map.1 hr
      obtain ⟨he1, he2⟩ := List.mem_filter.1 he
      exact haft e (Array.mem_toList_iff.1 he1) he2
    have hcount : (List.range os.size).countP (fun k => !(listed.setIfInBounds i true).getD k false) ≤ fuel := by
      have := countP_lt (p := fun k => !listed.getD k false) (p' := fun k => !(listed.setIfInBounds i true).getD k false) (l := List.range os.size) (i := i) (fun x hx => by
        have hx' : (listed.setIfInBounds i true).getD x false = false := by simpa using hx
        have : ¬ listed.getD x false = true := fun h => by rw [(listed_set hms).2 (.inr h)] at hx'; cases hx'
        simpa using this) (List.mem_range.2 his) (by simp only [hun]; rfl) (by simp only [(listed_set hms).2 (.inl rfl)]; rfl)
      omega
    unfold wpOp
    simp only [ho]
    have fork : ∀ {b : Prop} [Decidable b] {x y z' : Prop}, (if b then x else y) → if b then x ∨ z' else y := by
      intro b _ x y z' h
      split
      · rename_i hb; rw [if_pos hb] at h; exact .inl h
      · rename_i hb; rw [if_neg hb] at h; exact h
    rcases settle hsz h with ⟨q, j, inv⟩ | ⟨listed0, q, j, hu, hl, inv, r, hr, hx⟩
    · by_cases hi2 : i = iA
      · -- it is made early
        subst hi2
        have hok := L.ok i o _ ho L.ai
        simp only [okAI, Bool.and_eq_true] at hok
        obtain ⟨⟨⟨⟨k1, k2⟩, k3⟩, k4⟩, k5⟩ := hok
        have k1 : some dA = o.dst := eq_of_beq k1
        have k5 : okOp P (.alloc z) o.op = true := by
          have : (if isCall (K.alloc z) = true then okCall o.op else !isChk (K.alloc z) && okOp P (.alloc z) o.op) = true := k5
          simpa [isCall, isChk] using this
        obtain ⟨t, hop, hz⟩ : ∃ t, o.op = .alloc t ∧ zeroOK P t z = true := by
          exact okOp_alloc k5
        have hw : Region.wanted o (yielded os a.tmps) = true := by
          have k3 : okG os none o.guard = true := k3
          unfold okG at k3
          split at k3
          · rename_i h1 h2; simp [Region.wanted, h2]
          · rename_i h1 h2; cases h1
          · cases k3
        rw [if_pos hw]
        refine .inl (Inv.early inv hlv hz hdN hop k1.symm fun a' w' inv' => ih _ a' w' (by simp [hsz]) (.inr ⟨listed, q, j, hun, fun k => listed_set hms, inv'⟩) hcount)
      · obtain ⟨ai, hai, hok, hck⟩ := pl.op i o (by rw [L.same i hi2]; exact ho)
        obtain ⟨s2, q', h1, h2, h3, h4, h5⟩ := one_more pl tr j his' hai hun (by rw [L.aft hi2]; exact haf)
        exact fork (ai_ok (Q := Q) (K := wpAny P .any os Q fuel (listed.setIfInBounds i true)) hs hlv inv (L.ok i o ai ho hai) h1 (fun a' w' inv' => ih _ a' w' (by simp [hsz]) (.inl ⟨q', h2, inv'.ext h3 h4 h5⟩) hcount))
    · -- an operation beside it
      have hi2 : i ≠ iA := fun e => by
        subst e
        rw [(hl i).2 (.inl rfl)] at hun; cases hun
      have hun0 : listed0.getD i false = false := by
        cases h : listed0.getD i false with
        | false => rfl
        | true => rw [(hl i).2 (.inr h)] at hun; cases hun
      have hnA : iA ∉ afterOf os i := fun hm => by
        have hri := haf r (L.dep i his hm r hr)
        rcases (hl r).1 hri with rfl | h
        · have := (pl.top r r hiA hr).2; omega
        · rw [hx] at h; cases h
      have haf0 : ∀ r ∈ afterOf os' i, listed0.getD r false = true := by
        intro r' hr'
        rw [L.aft hi2] at hr'
        rcases (hl r').1 (haf r' hr') with rfl | h
        · exact absurd hr' hnA
        · exact h
      have hE : isEff as (ps iA) = true := by simp only [isEff, hKA]; rfl
      have hbef : ps i < ps iA := by
        rcases Nat.lt_trichotomy (ps i) (ps iA) with h | h | h
        · exact h
        · exact absurd (pl.inj i iA his' hiA h) hi2
        · have := anc_listed pl j.clo _ i iA his' haf0 (pl.aft i iA his' hiA hE h)
          rw [hu] at this; cases this
      obtain ⟨ai, hai, hok, hck⟩ := pl.op i o (by rw [L.same i hi2]; exact ho)
      obtain ⟨s2, q', h1, h2, h3, h4, h5⟩ := one_more pl tr j his' hai hun0 haf0
      have hrd := L.rd i his hbef
      have hXi : opX as (ps i) = ai.xs := by simp [opX, hai]
      have hGi : ∀ j b, ai.g = some (j, b) → j ∈ opG as (ps i) := fun j b h => by simp [opG, hai, h]
      have hdi : ai.d ≠ some dA := fun e => by
        obtain ⟨o', ai', _, g1, _, _, g3, _⟩ := op_at pl his'
        rw [hai] at g1
        simp only [Option.some.injEq] at g1
        subst g1
        rw [g3] at e
        exact hi2 (pl.dst i iA dA e hdst)
      have hms0 : i < listed0.size := by rw [j.size]; exact his'
      refine fork (HInv.step (Q := Q) (K := wpAny P .any os Q fuel (listed.setIfInBounds i true)) hs inv (L.ok i o ai ho hai) (fun h => hrd (List.mem_append_left _ (by rw [hXi]; exact h))) (fun j' b hj' e => hrd (List.mem_append_right _ (by rw [← e]; exact hGi j' b hj'))) hdi h1 (fun a' w' inv' => ih _ a' w' (by simp [hsz]) (.inr ⟨listed0.setIfInBounds i true, q', h2, ?_, fun k => ?_, inv'.ext h3 h4 h5⟩) hcount))
      · cases hh : (listed0.setIfInBounds i true).getD iA false with
        | false => rfl
        | true =>
          rcases (listed_set hms0).1 hh with e | e
          · exact absurd e.symm hi2
          · rw [hu] at e; cases e
      · rw [listed_set hms, listed_set hms0, hl]
        constructor
        · rintro (h | h | h)
          · exact .inr (.inl h)
          · exact .inl h
          · exact .inr (.inr h)
        · rintro (h | h | h)
          · exact .inr (.inl h)
          · exact .inl h
          · exact .inr (.inr h)
theorem late_ok (hs : SoundC P call) (hlv : Lv n S0) (hm : P.follows .mixedOrders = true) (L : Late P N os os' as ps iA dA z) (pl : Plan P N os' as ps) {id : Nat} {Q : Exit → Act → World → Prop} (e : steps call s as = some s') (inv : Inv N c0 S0 w0 n s a w) (hQ : ∀ a' w', Inv N c0 S0 w0 n s' a' w' → Q .normal a' w') :
    (Code.region id os true).wp P Q a w := by
  obtain ⟨st, t1, t2, t3⟩ := trace e
  have tr : Tr call as s s' st := ⟨t1, t2, t3⟩
  refine wp_region_any hm (late_any hs hlv L pl tr hQ _ _ _ _ (by simp) (.inl ⟨0, ⟨by simp [L.sz], ?_, ?_, Nat.zero_le _⟩, ?_⟩) ?_)
  · intro i hi h
    rw [L.sz] at hi
    simp [hi] at h
  · intro e he _
    rw [L.sz] at he
    simp [he]
  · have hinv : Inv N c0 S0 w0 n s a { w with drawn := w.drawn + 1 } := by
      obtain ⟨c, fp, sim, ha, hg, hd, hn⟩ := inv
      exact ⟨c, fp, ⟨sim.rg, sim.st, sim.df, sim.sz⟩, ha, hg.trans ⟨rfl, rfl, rfl, Nat.le_refl _, fun _ _ => rfl, Nat.le_succ _⟩, hd, hn⟩
    refine hinv.ext (fun t => ?_) (by simp [stL, tr.z]) (by simp [stL, tr.z])
    simp only [stL, getR_regsL]
    rw [if_neg]
    rintro ⟨i, h, hi⟩
    have := dst_lt hi
    rw [L.sz] at this
    simp [this] at h
  · exact Nat.le_trans List.countP_le_length (by simp)
end
end Go.Am
end
section
/- The form of drawn regions, as a test. -/
set_option linter.unusedSimpArgs false
set_option linter.unusedVariables false
namespace Go.Am
open Go.RowKit
/-! #### the form of drawn regions, as a test -/
def eqL : PV → PV → Bool
  | .sc (.int k a), .sc (.int k' b) => decide (k = k') && decide (a = b)
  | .sc (.bool a), .sc (.bool b) => a == b
  | _, _ => false
theorem eqL_spec {x y : PV} (h : eqL x y = true) : x = y := by
  unfold eqL at h
  split at h
  · simp only [Bool.and_eq_true, decide_eq_true_eq] at h; obtain ⟨rfl, rfl⟩ := h; rfl
  · obtain rfl := eq_of_beq h; rfl
  · cases h
def eqO : Opd → Opd → Bool
  | .t a, .t b => a == b
  | .f a, .f b => a == b
  | .k x, .k y => eqL x y
  | _, _ => false
theorem eqO_spec {x y : Opd} (h : eqO x y = true) : x = y := by
  unfold eqO at h
  split at h
  · obtain rfl := eq_of_beq h; rfl
  · obtain rfl := eq_of_beq h; rfl
  · rw [eqL_spec h]
  · cases h
def eqOs : List Opd → List Opd → Bool
  | [], [] => true
  | x :: xs, y :: ys => eqO x y && eqOs xs ys
  | _, _ => false
theorem eqOs_spec : ∀ {xs ys : List Opd}, eqOs xs ys = true → xs = ys
  | [], [], _ => rfl
  | [], _ :: _, h => by simp [eqOs] at h
  | _ :: _, [], h => by simp [eqOs] at h
  | x :: xs, y :: ys, h => by
    simp only [eqOs, Bool.and_eq_true] at h
    rw [eqO_spec h.1, eqOs_spec h.2]
def eqK : K → K → Bool
  | .load k t, .load k' t' => k == k' && t == t'
  | .faddr a, .faddr b => a == b
  | .iaddr a, .iaddr b => a == b
  | .iarr a b, .iarr a' b' => a == a' && b == b'
  | .len, .len => true
  | .nck, .nck => true
  | .bstr, .bstr => true
  | _, _ => false
theorem eqK_spec {x y : K} (h : eqK x y = true) : x = y := by
  unfold eqK at h
  split at h
  · simp only [Bool.and_eq_true] at h; obtain rfl := eq_of_beq h.1; obtain rfl := eq_of_beq h.2; rfl
  · obtain rfl := eq_of_beq h; rfl
  · obtain rfl := eq_of_beq h; rfl
  · simp only [Bool.and_eq_true] at h; obtain rfl := eq_of_beq h.1; obtain rfl := eq_of_beq h.2; rfl
  · rfl
  · rfl
  · rfl
  · cases h
def isChkOf (a b : AI) : Bool := match a.op, b.d, a.xs with
  | .chk k, some t, x :: xs => eqK k b.op && eqO x (.t t) && eqOs xs b.xs && a.g == b.g
  | _, _, _ => false
theorem isChkOf_spec {a b : AI} (h : isChkOf a b = true) : ∃ t, b.d = some t ∧ a.op = .chk b.op ∧ a.xs = .t t :: b.xs ∧ a.g = b.g := by
  unfold isChkOf at h
  split at h
  · rename_i k t x xs h1 h2 h3
    simp only [Bool.and_eq_true] at h
    exact ⟨t, h2, by rw [h1, eqK_spec h.1.1.1], by rw [h3, eqO_spec h.1.1.2, eqOs_spec h.1.2], eq_of_beq h.2⟩
  · cases h
def chkB (os : Array Oper) (as : List AI) (ps : Nat → Nat) (i p e : Nat) : Bool := (List.range as.length).any fun r => match as[r]?, as[p]? with
  | some a, some b => (List.range os.size).all (fun j => (match dstOf os j with | some u => !(opdTmps (opX as p) ++ opG as p).contains u | none => true) || !anc os os.size j i || decide (r ≤ ps j)) && decide (e < r) && (List.range as.length).all (fun q => !(decide (e < q) && decide (q < r)) || !isEff as q) && isChkOf a b
  | _, _ => false
def pairB (os : Array Oper) (as : List AI) (ps : Nat → Nat) (i j : Nat) : Bool :=
  (i == j || ps i != ps j) &&
  (match dstOf os i, dstOf os j with | some t, some u => t != u || i == j | _, _ => true) &&
  (match dstOf os j with | some t => !(opdTmps (opX as (ps i)) ++ opG as (ps i)).contains t || (anc os os.size i j || anc os os.size j i) | none => true) &&
  (!isEff as (ps j) || !decide (ps j < ps i) || anc os os.size i j) &&
  (!isEff as (ps j) || isEff as (ps i) || !decide (ps i < ps j) || anc os os.size j i || chkB os as ps i (ps i) (ps j) || isPure (opK as (ps i)))
def okDraw (P : Program) (N : Nat) (os : Array Oper) (as : List AI) (psl : List Nat) : Bool :=
  (List.range os.size).all (fun i => match os[i]?, as[psl.getD i 0]? with | some o, some ai => okAI P N os ai o && !isChk ai.op | _, _ => false) &&
  (List.range as.length).all (fun p => match as[p]? with | some ai => (isChk ai.op && ai.d.isNone) || (List.range os.size).any (fun i => psl.getD i 0 == p) | none => true) &&
  (List.range os.size).all (fun i => (List.range os.size).all fun j => pairB os as (fun i => psl.getD i 0) i j) &&
  (List.range os.size).all (fun i => (afterOf os i).all fun q => decide (q < os.size) && decide (psl.getD q 0 < psl.getD i 0))
theorem okDraw_plan {P : Program} {N : Nat} {os : Array Oper} {as : List AI} {psl : List Nat} (h : okDraw P N os as psl = true) : Plan P N os as (fun i => psl.getD i 0) := by
  simp only [okDraw, Bool.and_eq_true, List.all_eq_true, List.mem_range] at h
  obtain ⟨⟨⟨h1, h2⟩, h3⟩, h4⟩ := h
  have hp : ∀ i j, i < os.size → j < os.size → pairB os as (fun i => psl.getD i 0) i j = true := fun i j hi hj => h3 i hi j hj
  constructor
  · intro i o ho
    have := h1 i (Array.getElem?_eq_some_iff.1 ho).1
    rw [ho] at this
    split at this
    · rename_i o' ai e1 e2
      simp only [Option.some.injEq] at e1
      subst e1
      simp only [Bool.and_eq_true, Bool.not_eq_true'] at this
      exact ⟨ai, e2, this.1, this.2⟩
    · cases this
  · intro p ai hai
    have := h2 p (List.getElem?_eq_some_iff.1 hai).1
    rw [hai] at this
    simp only [Bool.or_eq_true, Bool.and_eq_true, Option.isNone_iff_eq_none, List.any_eq_true, List.mem_range, beq_iff_eq] at this
    rcases this with ⟨a, b⟩ | ⟨i, hi, hpi⟩
    · exact .inl ⟨a, b⟩
    · exact .inr ⟨i, os[i], Array.getElem?_eq_getElem hi, hpi⟩
  · intro i j hi hj e
    have := hp i j hi hj
    simp only [pairB, Bool.and_eq_true, Bool.or_eq_true, beq_iff_eq, bne_iff_ne] at this
    rcases this.1.1.1.1 with h | h
    · exact h
    · exact absurd e h
  · intro i j t hi hj
    have := hp i j (dst_lt hi) (dst_lt hj)
    simp only [pairB, hi, hj, Bool.and_eq_true, Bool.or_eq_true, beq_iff_eq, bne_iff_ne] at this
    rcases this.1.1.1.2 with h | h
    · exact absurd rfl h
    · exact h
  · intro i j t hj ht hi
    have := hp i j hi (dst_lt hj)
    simp only [pairB, hj, Bool.and_eq_true, Bool.or_eq_true, Bool.not_eq_true'] at this
    rcases this.1.1.2 with h | h
    · have h' : (opdTmps (opX as (psl.getD i 0)) ++ opG as (psl.getD i 0)).contains t = true := by simpa using ht
      rw [h'] at h; cases h
    · exact h
  · intro i q hi hq
    have := h4 i hi q hq
    simpa using this
  · intro i e hi he hE hlt
    have := hp i e hi he
    simp only [pairB, hE, Bool.and_eq_true, Bool.or_eq_true, Bool.not_eq_true', decide_eq_false_iff_not] at this
    rcases this.1.2 with (h | h) | h
    · cases h
    · exact absurd hlt h
    · exact h
  · intro i e hi he hE hE' hlt
    have := hp i e hi he
    simp only [pairB, hE, hE', Bool.and_eq_true, Bool.or_eq_true, Bool.not_eq_true', decide_eq_false_iff_not] at this
    rcases this.2 with ((((h | h) | h) | h) | h) | h
    · cases h
    · cases h
    · exact absurd hlt h
    · exact .inl h
    · refine .inr (.inl ?_)
      simp only [chkB, List.any_eq_true, List.mem_range] at h
      obtain ⟨r, hr, h⟩ := h
      split at h
      · rename_i a b ha hb
        simp only [Bool.and_eq_true, decide_eq_true_eq, List.all_eq_true, List.mem_range, Bool.or_eq_true, Bool.not_eq_true'] at h
        obtain ⟨⟨⟨h8, h5⟩, h6⟩, h7⟩ := h
        obtain ⟨t, g1, g2, g3, g4⟩ := isChkOf_spec h7
        refine ⟨r, a, b, t, ha, hb, g1, h5, fun q hq1 hq2 => ?_, g2, g3, g4, fun j u hj hu han => ?_⟩
        · rcases h6 q (by omega) with h | h
          · simp only [Bool.and_eq_false_iff, decide_eq_false_iff_not] at h
            omega
          · exact h
        · rcases h8 j (dst_lt hj) with (h | h) | h
          · rw [hj] at h
            have hu' : (opdTmps (opX as (psl.getD i 0)) ++ opG as (psl.getD i 0)).contains u = true := by simpa using hu
            simp only [hu'] at h
            cases h
          · rw [han] at h; cases h
          · exact h
      · cases h
    · exact .inr (.inr h)
/-! #### a variable made at any time -/
def lateP (as : List AI) (psl : List Nat) (iA j : Nat) : Bool := decide (psl.getD j 0 < psl.getD iA 0) && !isPure (opK as (psl.getD j 0))
def lateOps (os : Array Oper) (as : List AI) (psl : List Nat) (iA : Nat) : Array Oper := os.modify iA fun o => { o with after := (((List.range os.size).filter fun j => lateP as psl iA j).map fun j => (⟨j, .data⟩ : Edge)).toArray }
def lateB (P : Program) (N : Nat) (os : Array Oper) (as : List AI) (psl : List Nat) (iA : Nat) : Bool :=
  match as[psl.getD iA 0]? with
  | some ⟨some dA, .alloc _, [], none⟩ =>
    okDraw P N (lateOps os as psl iA) as psl && decide (iA < os.size) && (afterOf os iA).all (fun r => decide (r < os.size) && lateP as psl iA r) &&
    (List.range os.size).all (fun i => !(afterOf os i).contains iA || (List.range os.size).all fun r => !lateP as psl iA r || (afterOf os i).contains r) &&
    (List.range os.size).all (fun i => match os[i]?, as[psl.getD i 0]? with | some o, some ai => okAI P N os ai o | _, _ => false) &&
    (List.range os.size).all (fun i => !decide (psl.getD i 0 < psl.getD iA 0) || !(opdTmps (opX as (psl.getD i 0)) ++ opG as (psl.getD i 0)).contains dA)
  | _ => false
def okLate (P : Program) (N : Nat) (os : Array Oper) (as : List AI) (psl : List Nat) : Bool := (List.range os.size).any (lateB P N os as psl)
theorem lateOps_after {os : Array Oper} {as : List AI} {psl : List Nat} {iA : Nat} (h : iA < os.size) : afterOf (lateOps os as psl iA) iA = (List.range os.size).filter fun j => lateP as psl iA j := by
  have h2 : iA < (lateOps os as psl iA).size := by simpa [lateOps] using h
  simp only [afterOf, Array.getElem?_eq_getElem h2]
  simp only [lateOps, Array.getElem_modify_self, List.toList_toArray]
  generalize (List.range os.size).filter (fun j => lateP as psl iA j) = l
  induction l with
  | nil => rfl
  | cons x l ih =>
    simp only [List.map_cons, List.filter_cons]
    rw [if_pos (by rfl)]
    simp only [List.map_cons, ih]
theorem okLate_spec {P : Program} {N : Nat} {os : Array Oper} {as : List AI} {psl : List Nat} (h : okLate P N os as psl = true) : ∃ os' iA dA z, Late P N os os' as (fun i => psl.getD i 0) iA dA z ∧ Plan P N os' as (fun i => psl.getD i 0) := by
  simp only [okLate, List.any_eq_true, List.mem_range] at h
  obtain ⟨iA, _, h⟩ := h
  unfold lateB at h
  split at h
  · rename_i dA z hai
    simp only [Bool.and_eq_true, decide_eq_true_eq, List.all_eq_true, List.mem_range] at h
    obtain ⟨⟨⟨⟨⟨h1, h2⟩, h3⟩, h4⟩, h5⟩, h6⟩ := h
    have hmem : ∀ r, r ∈ afterOf (lateOps os as psl iA) iA ↔ r < os.size ∧ lateP as psl iA r = true := fun r => by
      rw [lateOps_after h2]; simp
    refine ⟨_, iA, dA, z, ⟨by simp [lateOps], fun i hi => ?_, h2, fun r hr => (hmem r).2 (h3 r hr), fun i hi hA r hr => ?_, fun i o ai ho ha => ?_, hai, fun i hi hlt => ?_⟩, okDraw_plan h1⟩
    · simp only [lateOps]
      rw [Array.getElem?_modify]
      rw [if_neg (Ne.symm hi)]
    · have := h4 i hi
      simp only [Bool.or_eq_true, Bool.not_eq_true', List.all_eq_true, List.mem_range, decide_eq_false_iff_not] at this
      rcases this with h | h
      · have h' : (afterOf os i).contains iA = true := by simpa using hA
        rw [h'] at h; cases h
      · rcases h r ((hmem r).1 hr).1 with h | h
        · rw [((hmem r).1 hr).2] at h; cases h
        · simpa using h
    · have := h5 i (Array.getElem?_eq_some_iff.1 ho).1
      rw [ho, ha] at this
      exact this
    · have := h6 i hi
      simp only [Bool.or_eq_true, Bool.not_eq_true', decide_eq_false_iff_not] at this
      rcases this with h | h
      · exact absurd hlt h
      · simpa using h
  · cases h
end Go.Am
end
section
/- Drawn regions with effects that have no order: each of the orders is run, and all come to one end. -/
set_option linter.unusedSimpArgs false
set_option linter.unusedVariables false
namespace Go.Am
open Go.RowKit
/-- The region in which `j` stands behind `i`. -/
def addE (os : Array Oper) (j i : Nat) : Array Oper := os.modify j fun o => { o with after := o.after.push ⟨i, .data⟩ }
theorem addE_size (os : Array Oper) (j i : Nat) : (addE os j i).size = os.size := by simp [addE]
theorem addE_ne {os : Array Oper} {j i k : Nat} (h : k ≠ j) : (addE os j i)[k]? = os[k]? := by
  unfold addE
  rw [Array.getElem?_modify, if_neg (Ne.symm h)]
theorem addE_after {os : Array Oper} {j i k r : Nat} (hj : j < os.size) : r ∈ afterOf (addE os j i) k ↔ (k = j ∧ r = i) ∨ r ∈ afterOf os k := by
  by_cases h : k = j
  · subst h
    have h2 : k < (addE os k i).size := by rw [addE_size]; exact hj
    simp only [afterOf, Array.getElem?_eq_getElem h2, Array.getElem?_eq_getElem hj]
    simp only [addE, Array.getElem_modify_self, Array.toList_push, List.filter_append, List.map_append, List.mem_append]
    have : (List.filter (fun e => Region.binds .any e) [(⟨i, .data⟩ : Edge)]) = [⟨i, .data⟩] := by
      simp [List.filter, show Region.binds .any (⟨i, .data⟩ : Edge) = true from rfl]
    rw [this]
    simp only [List.map_cons, List.map_nil, List.mem_singleton, true_and]
    exact or_comm
  · simp only [afterOf, addE_ne h]
    simp [h]
def lfOs : Array Oper → AC → Array Oper
  | os, .alt i j _ a _ => lfOs (addE os j i) a
  | os, _ => os
def lfAs : AC → List AI
  | .reg _ as _ _ => as
  | .alt _ _ _ a _ => lfAs a
  | _ => []
def lfPs : AC → List Nat
  | .reg o _ _ _ => o
  | .alt _ _ _ a _ => lfPs a
  | _ => []
def psF (l : List Nat) : Nat → Nat := fun i => l.getD i 0
/-! #### a test for equal code -/
mutual
def eqPV : PV → PV → Bool
  | .sc (.int k a), .sc (.int k' b) => decide (k = k') && decide (a = b)
  | .sc (.bool a), .sc (.bool b) => a == b
  | .sc (.string a), .sc (.string b) => decide (a = b)
  | .nils, .nils => true
  | .agg cs, .agg ds => eqPVs cs ds
  | _, _ => false
def eqPVs : List PV → List PV → Bool
  | [], [] => true
  | x :: xs, y :: ys => eqPV x y && eqPVs xs ys
  | _, _ => false
end
mutual
theorem eqPV_spec : ∀ {x y : PV}, eqPV x y = true → x = y
  | .sc u, y, h => by
    cases y with
    | sc v => cases u <;> cases v <;> simp [eqPV] at h <;> first | (obtain ⟨rfl, rfl⟩ := h; rfl) | (subst h; rfl)
    | _ => cases u <;> simp [eqPV] at h
  | .nils, y, h => by cases y <;> first | rfl | (simp [eqPV] at h)
  | .agg cs, y, h => by
    cases y with
    | agg ds => simp only [eqPV] at h; rw [eqPVs_spec h]
    | _ => simp [eqPV] at h
  | .undef, y, h | .sl _ _ _, y, h | .own _ _, y, h | .ref _ _ _ _, y, h | .sub _ _ _, y, h | .iref _ _, y, h | .mp _, y, h | .clo _ _, y, h | .tup _, y, h | .bx _, y, h | .non, y, h => by simp [eqPV] at h
theorem eqPVs_spec : ∀ {xs ys : List PV}, eqPVs xs ys = true → xs = ys
  | [], [], _ => rfl
  | [], _ :: _, h => by simp [eqPVs] at h
  | _ :: _, [], h => by simp [eqPVs] at h
  | x :: xs, y :: ys, h => by
    simp only [eqPVs, Bool.and_eq_true] at h
    rw [eqPV_spec h.1, eqPVs_spec h.2]
end
def eqP : Opd → Opd → Bool
  | .t a, .t b => a == b
  | .f a, .f b => a == b
  | .k x, .k y => eqPV x y
  | _, _ => false
theorem eqP_spec {x y : Opd} (h : eqP x y = true) : x = y := by
  unfold eqP at h
  split at h
  · obtain rfl := eq_of_beq h; rfl
  · obtain rfl := eq_of_beq h; rfl
  · rw [eqPV_spec h]
  · cases h
def eqPs : List Opd → List Opd → Bool
  | [], [] => true
  | x :: xs, y :: ys => eqP x y && eqPs xs ys
  | _, _ => false
theorem eqPs_spec : ∀ {xs ys : List Opd}, eqPs xs ys = true → xs = ys
  | [], [], _ => rfl
  | [], _ :: _, h => by simp [eqPs] at h
  | _ :: _, [], h => by simp [eqPs] at h
  | x :: xs, y :: ys, h => by
    simp only [eqPs, Bool.and_eq_true] at h
    rw [eqP_spec h.1, eqPs_spec h.2]
def bkN : BK → Nat
  | .add => 0 | .sub => 1 | .mul => 2 | .quo => 3 | .rem => 4 | .eq => 5 | .ne => 6 | .lt => 7 | .le => 8 | .gt => 9 | .ge => 10 | .xor => 11
theorem bkN_inj {a b : BK} (h : bkN a = bkN b) : a = b := by cases a <;> cases b <;> first | rfl | (simp [bkN] at h)
def eqKd : K → K → Bool
  | .move, .move | .pick, .pick | .box, .box | .beq, .beq | .bne, .bne | .not, .not | .neg, .neg | .istr, .istr | .len, .len | .lens, .lens | .nck, .nck | .isnil, .isnil | .min2, .min2 | .max2, .max2 => true
  | .alloc z, .alloc z' => eqPVs z z'
  | .build z o, .build z' o' => eqPVs z z' && o == o'
  | .bslice k m, .bslice k' m' => k == k' && m == m'
  | .load k t, .load k' t' => k == k' && t == t'
  | .store k t, .store k' t' => k == k' && t == t'
  | .bin a, .bin b => bkN a == bkN b
  | .faddr a, .faddr b | .iaddr a, .iaddr b | .ext a, .ext b | .eslice a, .eslice b | .fsl a, .fsl b | .mkfunc a, .mkfunc b => a == b
  | .iarr a b, .iarr a' b' => a == a' && b == b'
  | .sstr a b, .sstr a' b' => a == a' && b == b'
  | .bstr, .bstr => true
  | .conv a, .conv b => decide (a = b)
  | .idx a b c, .idx a' b' c' => a == a' && b == b' && c == c'
  | .fld a b, .fld a' b' => a == a' && b == b'
  | .append a b, .append a' b' => a == a' && b == b'
  | .slice a b c, .slice a' b' c' => a == a' && b == b' && c == c'
  | .call a b, .call a' b' => a == a' && b == b'
  | .mkslice a z, .mkslice a' z' => a == a' && eqPV z z'
  | .lookup a z b, .lookup a' z' b' => a == a' && b == b' && eqPV z z'
  | .meq a, .meq b => a == b
  | .chk a, .chk b => eqKd a b
  | _, _ => false
theorem eqKd_spec : ∀ {x y : K}, eqKd x y = true → x = y
  | .chk a, y, h => by
    cases y with
    | chk b => rw [eqKd_spec (x := a) (y := b) (by simpa [eqKd] using h)]
    | _ => simp [eqKd] at h
  | .move, y, h | .pick, y, h | .box, y, h | .beq, y, h | .bne, y, h | .not, y, h | .neg, y, h | .istr, y, h | .len, y, h | .lens, y, h | .nck, y, h | .isnil, y, h | .min2, y, h | .max2, y, h
  | .take, y, h | .copy, y, h | .bstr, y, h => by cases y <;> first | rfl | (simp [eqKd] at h)
  | .alloc z, y, h => by cases y <;> first | (simp only [eqKd] at h; rw [eqPVs_spec h]) | (simp [eqKd] at h)
  | .build z o, y, h => by cases y <;> first | (simp only [eqKd, Bool.and_eq_true, beq_iff_eq] at h; rw [eqPVs_spec h.1, h.2]) | (simp [eqKd] at h)
  | .bin a, y, h => by cases y <;> first | (simp only [eqKd, beq_iff_eq] at h; rw [bkN_inj h]) | (simp [eqKd] at h)
  | .mkslice a z, y, h => by cases y <;> first | (simp only [eqKd, Bool.and_eq_true, beq_iff_eq] at h; rw [h.1, eqPV_spec h.2]) | (simp [eqKd] at h)
  | .lookup a z b, y, h => by cases y <;> first | (simp only [eqKd, Bool.and_eq_true, beq_iff_eq] at h; rw [h.1.1, h.1.2, eqPV_spec h.2]) | (simp [eqKd] at h)
  | .idx a b c, y, h | .slice a b c, y, h => by cases y <;> first | (simp only [eqKd, Bool.and_eq_true, beq_iff_eq] at h; rw [h.1.1, h.1.2, h.2]) | (simp [eqKd] at h)
  | .iarr a b, y, h | .sstr a b, y, h | .fld a b, y, h | .append a b, y, h | .call a b, y, h | .bslice a b, y, h | .load a b, y, h | .store a b, y, h => by cases y <;> first | (simp only [eqKd, Bool.and_eq_true, beq_iff_eq] at h; rw [h.1, h.2]) | (simp [eqKd] at h)
  | .faddr a, y, h | .iaddr a, y, h | .ext a, y, h | .eslice a, y, h | .fsl a, y, h | .mkfunc a, y, h | .meq a, y, h => by cases y <;> first | (simp only [eqKd, beq_iff_eq] at h; rw [h]) | (simp [eqKd] at h)
  | .conv a, y, h => by cases y <;> first | (simp only [eqKd, decide_eq_true_eq] at h; rw [h]) | (simp [eqKd] at h)
  | .clear _ _, y, h | .mkmap _, y, h | .mapset _, y, h => by cases y <;> simp [eqKd] at h
def eqAI (a b : AI) : Bool := a.d == b.d && eqKd a.op b.op && eqPs a.xs b.xs && a.g == b.g
theorem eqAI_spec {a b : AI} (h : eqAI a b = true) : a = b := by
  simp only [eqAI, Bool.and_eq_true, beq_iff_eq] at h
  obtain ⟨⟨⟨h1, h2⟩, h3⟩, h4⟩ := h
  cases a; cases b
  simp only at h1 h2 h3 h4
  rw [h1, eqKd_spec h2, eqPs_spec h3, h4]
/-! #### when two orders part -/
/-- `i` and `j` have no order; what may be run ahead of both stands in the same `m` places of both orders. -/
structure Alt (P : Program) (N : Nat) (OS os osA osB : Array Oper) (asA asB : List AI) (psA psB : Nat → Nat) (i j m : Nat) : Prop where
  sA : osA.size = OS.size
  sB : osB.size = OS.size
  li : i < OS.size
  lj : j < OS.size
  ne : i ≠ j
  dA : ∀ k, k < OS.size → dstOf osA k = dstOf OS k
  dB : ∀ k, k < OS.size → dstOf osB k = dstOf OS k
  up : ∀ k, k < OS.size → ∀ r ∈ afterOf os k, r ∈ afterOf osA k
  ij : i ∈ afterOf osA j
  aA : ∀ k, k < OS.size → psA k < m ∨ k = i → ∀ r ∈ afterOf osA k, r ∈ afterOf os k
  aB : ∀ k, k < OS.size → psA k < m ∨ k = j → ∀ r ∈ afterOf osB k, r ∈ afterOf os k
  cov : ∀ k, k < OS.size → psA k < m ∨ k = i ∨ k = j ∨ ∃ r ∈ afterOf os k, r < OS.size ∧ ¬ psA r < m
  nA : ¬ psA i < m ∧ ¬ psA j < m
  p1 : ∀ k, k < OS.size → psA k < m → psB k = psA k
  p2 : ∀ k, k < OS.size → psB k < m → psA k = psB k
  pre : ∀ p, p < m → asA[p]? = asB[p]?
  mA : m ≤ asA.length
  mB : m ≤ asB.length
  okA : ∀ k o ai, OS[k]? = some o → asA[psA k]? = some ai → okAI P N OS ai o = true
  okB : ∀ o ai, OS[j]? = some o → asB[psB j]? = some ai → okAI P N OS ai o = true
def preB : Nat → List AI → List AI → Bool
  | 0, _, _ => true
  | m + 1, a :: as, b :: bs => eqAI a b && preB m as bs
  | _, _, _ => false
theorem preB_spec : ∀ {m : Nat} {as bs : List AI}, preB m as bs = true → m ≤ as.length ∧ m ≤ bs.length ∧ ∀ p, p < m → as[p]? = bs[p]?
  | 0, as, bs, _ => ⟨Nat.zero_le _, Nat.zero_le _, fun p h => by omega⟩
  | m + 1, [], _, h => by simp [preB] at h
  | m + 1, _ :: _, [], h => by simp [preB] at h
  | m + 1, a :: as, b :: bs, h => by
    simp only [preB, Bool.and_eq_true] at h
    obtain ⟨h1, h2, h3⟩ := preB_spec h.2
    refine ⟨by simp; omega, by simp; omega, fun p hp => ?_⟩
    cases p with
    | zero => simp [eqAI_spec h.1]
    | succ p => simpa using h3 p (by omega)
def altB (P : Program) (N : Nat) (OS os osA osB : Array Oper) (asA asB : List AI) (oA oB : List Nat) (i j m : Nat) : Bool :=
  osA.size == OS.size && osB.size == OS.size && decide (i < OS.size) && decide (j < OS.size) && (i != j) && preB m asA asB &&
  (List.range OS.size).all (fun k =>
    dstOf osA k == dstOf OS k && dstOf osB k == dstOf OS k &&
    (afterOf os k).all (fun r => (afterOf osA k).contains r) &&
    (!(decide (psF oA k < m) || k == i) || (afterOf osA k).all (fun r => (afterOf os k).contains r)) &&
    (!(decide (psF oA k < m) || k == j) || (afterOf osB k).all (fun r => (afterOf os k).contains r)) &&
    (decide (psF oA k < m) || k == i || k == j || (afterOf os k).any fun r => decide (r < OS.size) && !decide (psF oA r < m)) &&
    (!decide (psF oA k < m) || psF oB k == psF oA k) && (!decide (psF oB k < m) || psF oA k == psF oB k) &&
    (match OS[k]?, asA[psF oA k]? with | some o, some ai => okAI P N OS ai o | _, _ => false)) &&
  (afterOf osA j).contains i && !decide (psF oA i < m) && !decide (psF oA j < m) &&
  (match OS[j]?, asB[psF oB j]? with | some o, some ai => okAI P N OS ai o | _, _ => false)
theorem altB_spec {P : Program} {N : Nat} {OS os osA osB : Array Oper} {asA asB : List AI} {oA oB : List Nat} {i j m : Nat} (h : altB P N OS os osA osB asA asB oA oB i j m = true) : Alt P N OS os osA osB asA asB (psF oA) (psF oB) i j m := by
  simp only [altB, Bool.and_eq_true, List.all_eq_true, List.mem_range, beq_iff_eq, decide_eq_true_eq, bne_iff_ne, Bool.or_eq_true, Bool.not_eq_true', decide_eq_false_iff_not, List.any_eq_true, Bool.or_eq_false_iff, beq_eq_false_iff_ne, List.contains_iff_mem] at h
  obtain ⟨⟨⟨⟨⟨⟨⟨⟨⟨⟨h1, h2⟩, h3⟩, h4⟩, h5⟩, h6⟩, h7⟩, h8⟩, h9⟩, h10⟩, h11⟩ := h
  obtain ⟨q1, q2, q3⟩ := preB_spec h6
  refine ⟨h1, h2, h3, h4, h5, fun k hk => (h7 k hk).1.1.1.1.1.1.1.1, fun k hk => (h7 k hk).1.1.1.1.1.1.1.2, fun k hk => (h7 k hk).1.1.1.1.1.1.2, h8, fun k hk hc r hr => ?_, fun k hk hc r hr => ?_, fun k hk => ?_, ⟨h9, h10⟩, fun k hk hc => ?_, fun k hk hc => ?_, q3, q1, q2, fun k o ai ho ha => ?_, fun o ai ho ha => ?_⟩
  · rcases (h7 k hk).1.1.1.1.1.2 with e | e
    · rcases hc with hc | hc
      · exact absurd hc e.1
      · exact absurd hc e.2
    · exact e r hr
  · rcases (h7 k hk).1.1.1.1.2 with e | e
    · rcases hc with hc | hc
      · exact absurd hc e.1
      · exact absurd hc e.2
    · exact e r hr
  · rcases (h7 k hk).1.1.1.2 with ((e | e) | e) | e
    · exact .inl e
    · exact .inr (.inl e)
    · exact .inr (.inr (.inl e))
    · exact .inr (.inr (.inr e))
  · rcases (h7 k hk).1.1.2 with e | e
    · exact absurd hc e
    · exact e
  · rcases (h7 k hk).1.2 with e | e
    · exact absurd hc e
    · exact e
  · have := (h7 k (Array.getElem?_eq_some_iff.1 ho).1).2
    rw [ho, ha] at this
    exact this
  · rw [ho, ha] at h11
    exact h11
def okTree (P : Program) (N : Nat) (OS : Array Oper) : Array Oper → AC → Bool
  | os, .reg ord as _ _ => okDraw P N os as ord && (List.range OS.size).all (fun k => (afterOf OS k).all (fun r => (afterOf os k).contains r) && dstOf os k == dstOf OS k && (match OS[k]?, as[psF ord k]? with | some o, some ai => okAI P N OS ai o | _, _ => false)) && os.size == OS.size
  | os, .alt i j m a b => okTree P N OS (addE os j i) a && okTree P N OS (addE os i j) b && altB P N OS os (lfOs (addE os j i) a) (lfOs (addE os i j) b) (lfAs a) (lfAs b) (lfPs a) (lfPs b) i j m
  | _, _ => false
theorem okTree_plan {P : Program} {N : Nat} {OS : Array Oper} : ∀ {t : AC} {os : Array Oper}, okTree P N OS os t = true → Plan P N (lfOs os t) (lfAs t) (psF (lfPs t))
  | .reg ord as _ _, os, h => by
    simp only [okTree, Bool.and_eq_true] at h
    exact okDraw_plan h.1.1
  | .alt i j m a b, os, h => by
    simp only [okTree, Bool.and_eq_true] at h
    exact okTree_plan (t := a) h.1.1
  | .skip, _, h | .nest _ _ _ _ _ _ _, _, h | .seq _ _, _, h | .cond _ _ _, _, h | .block _ _, _, h | .loop _ _ _, _, h | .exit _, _, h | .ret, _, h => by simp [okTree] at h
end Go.Am
end
section
/- Every order of a drawn region with unordered effects comes to the one end of the machine's orders. -/
set_option linter.unusedSimpArgs false
set_option linter.unusedVariables false
namespace Go.Am
open Go.RowKit
section
variable {P : Program} {N n : Nat} {c0 : Ctx} {S0 : Sto} {w0 w : World} {OS os : Array Oper} {as : List AI} {ps : Nat → Nat} {call : CallF} {lp : List Nat → List Nat → AC → St → Option (EX × St)} {s s' : St} {a : Act} {st : Nat → St}
/-- The end of a listing of all. -/
theorem all_listed (pl : Plan P N os as ps) (tr : Tr call as s s' st) {listed : Array Bool} {q : Nat} {a : Act} {w : World} (j : J os as ps listed q) (hall : ∀ i, i < os.size → listed.getD i false = true) (inv : Inv N c0 S0 w0 n (stL os s s' st listed q) a w) : Inv N c0 S0 w0 n s' a w := by
  refine inv.ext (fun t => ?_) ?_ ?_
  · simp only [stL, getR_regsL]
    by_cases h : ∃ i, listed.getD i false = true ∧ dstOf os i = some t
    · rw [if_pos h]
    · rw [if_neg h, ← tr.e]
      exact regs_none pl tr (fun i hi => h ⟨i, hall i (dst_lt hi), hi⟩) (Nat.le_refl _)
  all_goals
    have := objs_between pl tr (p := q) (p' := as.length) j.le (Nat.le_refl _) (fun r h1 h2 => by
      cases he : isEff as r with
      | false => rfl
      | true =>
        obtain ⟨a', ha'⟩ : ∃ a', as[r]? = some a' := ⟨_, List.getElem?_eq_getElem h2⟩
        rcases pl.pos r a' ha' with ⟨h, _⟩ | ⟨e, oe, hoe, rfl⟩
        · simp [isEff, opK, ha', h] at he
        · have hes : e < os.size := (Array.getElem?_eq_some_iff.1 hoe).1
          have := (j.eff e hes he).1 (hall e hes)
          omega)
    rw [tr.e] at this
    first | exact this.1 | exact this.2
/-- While something is not listed, something is ready. -/
theorem some_ready (pl : Plan P N os as ps) (hsz : os.size = OS.size) (hup : ∀ k, k < OS.size → ∀ r ∈ afterOf OS k, r ∈ afterOf os k) {listed : Array Bool} (hls : listed.size = OS.size) {i : Nat} (hi : i < OS.size) (hu : listed.getD i false = false) : Region.ready .any OS listed ≠ [] := by
  obtain ⟨m, ⟨hm1, hm2⟩, hm3⟩ := min_pos (ps := ps) (f := fun k => k < OS.size ∧ listed.getD k false = false) (ps i) ⟨i, ⟨hi, hu⟩, Nat.le_refl _⟩
  have : m ∈ Region.ready .any OS listed := by
    rw [mem_ready]
    refine ⟨?_, OS[m], Array.getElem?_eq_getElem hm1, fun e he hb => ?_⟩
    · have hms : m < listed.size := by rw [hls]; exact hm1
      simp only [Array.getD, hms, dif_pos] at hm2 ⊢
      exact hm2
    · have hmem : e.on ∈ afterOf OS m := by
        simp only [afterOf, Array.getElem?_eq_getElem hm1]
        exact List.mem_map.2 ⟨e, List.mem_filter.2 ⟨Array.mem_toList_iff.2 he, hb⟩, rfl⟩
      obtain ⟨h1, h2⟩ := pl.top m e.on (by rw [hsz]; exact hm1) (hup m hm1 _ hmem)
      cases hl : listed.getD e.on false with
      | true => rfl
      | false => have := hm3 e.on ⟨by rw [← hsz]; exact h1, hl⟩; omega
  intro h
  rw [h] at this; cases this
theorem ready_un {listed : Array Bool} (hls : listed.size = OS.size) {i : Nat} (hi : i ∈ Region.ready .any OS listed) : ∃ o, OS[i]? = some o ∧ i < OS.size ∧ i < listed.size ∧ listed.getD i false = false ∧ ∀ r ∈ afterOf OS i, listed.getD r false = true := by
  obtain ⟨h0, o, ho, haft⟩ := mem_ready.1 hi
  have his : i < OS.size := (Array.getElem?_eq_some_iff.1 ho).1
  have hms : i < listed.size := by rw [hls]; exact his
  refine ⟨o, ho, his, hms, ?_, ?_⟩
  · simp only [Array.getD, hms, dif_pos] at h0 ⊢
    exact h0
  · intro r hr
    simp only [afterOf, ho] at hr
    obtain ⟨e, he, rfl⟩ := List.mem_map.1 hr
    obtain ⟨he1, he2⟩ := List.mem_filter.1 he
    exact haft e (Array.mem_toList_iff.1 he1) he2
theorem count_less {listed : Array Bool} {fuel i : Nat} (hi : i < OS.size) (hms : i < listed.size) (hun : listed.getD i false = false) (hc : (List.range OS.size).countP (fun i => !listed.getD i false) ≤ fuel + 1) : (List.range OS.size).countP (fun k => !(listed.setIfInBounds i true).getD k false) ≤ fuel := by
  have := countP_lt (p := fun k => !listed.getD k false) (p' := fun k => !(listed.setIfInBounds i true).getD k false) (l := List.range OS.size) (i := i) (fun x hx => by
    have hx' : (listed.setIfInBounds i true).getD x false = false := by simpa using hx
    have : ¬ listed.getD x false = true := fun h => by rw [(listed_set hms).2 (.inr h)] at hx'; cases hx'
    simpa using this) (List.mem_range.2 hi) (by simp only [hun]; rfl) (by simp only [(listed_set hms).2 (.inl rfl)]; rfl)
  omega
theorem leaf_any (hs : SoundC P call) (hlv : Lv n S0) (pl : Plan P N os as ps) (tr : Tr call as s s' st) (hsz : os.size = OS.size) (hup : ∀ k, k < OS.size → ∀ r ∈ afterOf OS k, r ∈ afterOf os k)
    (hok : ∀ k o ai, OS[k]? = some o → as[ps k]? = some ai → okAI P N OS ai o = true) {Q : Exit → Act → World → Prop} (hQ : ∀ a' w', Inv N c0 S0 w0 n s' a' w' → Q .normal a' w') :
    ∀ (fuel : Nat) (listed : Array Bool) (q : Nat) (a : Act) (w : World), (∀ k, k < OS.size → ∀ r ∈ afterOf os k, r ∈ afterOf OS k ∨ listed.getD r false = true) → J os as ps listed q → (List.range OS.size).countP (fun i => !listed.getD i false) ≤ fuel → Inv N c0 S0 w0 n (stL os s s' st listed q) a w → wpAny P .any OS Q fuel listed a w := by
  have done : ∀ {listed : Array Bool} {q : Nat} {a : Act} {w : World}, J os as ps listed q → Inv N c0 S0 w0 n (stL os s s' st listed q) a w → (Region.ready .any OS listed = [] ∨ (List.range OS.size).countP (fun i => !listed.getD i false) = 0) → Q .normal a w := by
    intro listed q a w j inv h
    refine hQ _ _ (all_listed pl tr j (fun i hi => ?_) inv)
    cases hu : listed.getD i false with
    | true => rfl
    | false =>
      rcases h with h | h
      · exact absurd h (some_ready pl hsz hup (by rw [j.size, hsz]) (by rw [← hsz]; exact hi) hu)
      · have := List.countP_eq_zero.1 h i (List.mem_range.2 (by rw [← hsz]; exact hi))
        simp [hu] at this
  intro fuel
  induction fuel with
  | zero =>
    intro listed q a w hE j hc inv
    refine ⟨?_, done j inv (.inr (Nat.le_zero.1 hc))⟩
    refine List.eq_nil_iff_forall_not_mem.2 fun i hi => ?_
    obtain ⟨o, ho, his, hms, hun, haf⟩ := ready_un (by rw [j.size, hsz]) hi
    have := List.countP_eq_zero.1 (Nat.le_zero.1 hc) i (List.mem_range.2 his)
    simp [hun] at this
  | succ fuel ih =>
    intro listed q a w hE j hc inv
    refine ⟨fun h => done j inv (.inl h), fun i hi => ?_⟩
    obtain ⟨o, ho, his, hms, hun, haf⟩ := ready_un (by rw [j.size, hsz]) hi
    have his' : i < os.size := by rw [hsz]; exact his
    obtain ⟨o', ai, ho', hai, _, hck, _⟩ := op_at pl his'
    have haf' : ∀ r ∈ afterOf os i, listed.getD r false = true := fun r hr => (hE i his r hr).elim (haf r) id
    obtain ⟨s2, q', h1, h2, h3, h4, h5⟩ := one_more pl tr j his' hai hun haf'
    unfold wpOp
    simp only [ho]
    have hstep := ai_ok (Q := Q) (K := wpAny P .any OS Q fuel (listed.setIfInBounds i true)) hs hlv inv (hok i o ai ho hai) h1 (fun a' w' inv' => ih _ q' a' w' (fun k hk r hr => (hE k hk r hr).imp id fun h => (listed_set hms).2 (.inr h)) h2 (count_less his hms hun hc) (inv'.ext h3 h4 h5))
    split
    · rename_i hw; rw [if_pos hw] at hstep; exact .inl hstep
    · rename_i hw; rw [if_neg hw] at hstep; exact hstep
/-- The states of two orders that begin alike. -/
theorem same_pre {asA asB : List AI} {sA sB : St} {stA stB : Nat → St} {m : Nat} (trA : Tr call asA s sA stA) (trB : Tr call asB s sB stB) (hp : ∀ p, p < m → asA[p]? = asB[p]?) (hm : m ≤ asA.length) : ∀ p, p ≤ m → stA p = stB p
  | 0, _ => by rw [trA.z, trB.z]
  | p + 1, h => by
    have ih := same_pre trA trB hp hm p (by omega)
    obtain ⟨ai, hai⟩ : ∃ ai, asA[p]? = some ai := ⟨_, List.getElem?_eq_getElem (by omega)⟩
    have h1 := trA.go p ai hai
    have h2 := trB.go p ai (by rw [← hp p (by omega)]; exact hai)
    rw [ih, h2] at h1
    exact (Option.some.inj h1).symm
/-- Ahead of both, only what stands in front is listed. -/
theorem Alt.front {osA osB : Array Oper} {asA asB : List AI} {psA psB : Nat → Nat} {i j m : Nat} (A : Alt P N OS os osA osB asA asB psA psB i j m) (pl : Plan P N osA asA psA) {listed : Array Bool} (hc : Clo osA listed) (hi : listed.getD i false = false) (hj : listed.getD j false = false) : ∀ k, k < OS.size → listed.getD k false = true → psA k < m := by
  intro k hk hl
  refine Classical.byContradiction fun hn => ?_
  obtain ⟨x, ⟨hx1, hx2, hx3⟩, hmin⟩ := min_pos (ps := psA) (f := fun k => k < OS.size ∧ listed.getD k false = true ∧ ¬ psA k < m) (psA k) ⟨k, ⟨hk, hl, hn⟩, Nat.le_refl _⟩
  rcases A.cov x hx1 with h | h | h | ⟨r, hr, hr1, hr2⟩
  · exact hx3 h
  · rw [h, hi] at hx2; cases hx2
  · rw [h, hj] at hx2; cases hx2
  · have hrA := A.up x hx1 r hr
    have hx1' : x < osA.size := by rw [A.sA]; exact hx1
    have hrl := hc x hx1' hx2 r hrA
    have := hmin r ⟨hr1, hrl, hr2⟩
    have := (pl.top x r hx1' hrA).2
    omega
/-- From the one order to the other. -/
theorem Alt.cross {osA osB : Array Oper} {asA asB : List AI} {psA psB : Nat → Nat} {i j m : Nat} (A : Alt P N OS os osA osB asA asB psA psB i j m) (plA : Plan P N osA asA psA) (plB : Plan P N osB asB psB) {sA sB : St} {stA stB : Nat → St} (trA : Tr call asA s sA stA) (trB : Tr call asB s sB stB)
    {listed : Array Bool} {q : Nat} (J1 : J osA asA psA listed q) (hi : listed.getD i false = false) (hj : listed.getD j false = false) (inv : Inv N c0 S0 w0 n (stL osA s sA stA listed q) a w) : ∃ q', J osB asB psB listed q' ∧ Inv N c0 S0 w0 n (stL osB s sB stB listed q') a w := by
  have hfr := A.front plA J1.clo hi hj
  have hin : ∀ k, listed.getD k false = true → k < OS.size := fun k hk => by
    rcases Nat.lt_or_ge k OS.size with h | h
    · exact h
    · have : ¬ k < listed.size := by rw [J1.size, A.sA]; omega
      simp [Array.getD, this] at hk
  have hmA := A.mA
  have hmB := A.mB
  -- up to the front's end
  obtain ⟨q0, hq0, hql, hobj⟩ : ∃ q0, q0 ≤ m ∧ (∀ e, e < OS.size → isEff asA (psA e) = true → (listed.getD e false = true ↔ psA e < q0)) ∧ (stA q0).l = (stA q).l ∧ (stA q0).o = (stA q).o := by
    by_cases hq : q ≤ m
    · exact ⟨q, hq, fun e he hee => J1.eff e (by rw [A.sA]; exact he) hee, rfl, rfl⟩
    · refine ⟨m, Nat.le_refl _, fun e he hee => ?_, ?_⟩
      · constructor
        · exact fun h => hfr e he h
        · exact fun h => (J1.eff e (by rw [A.sA]; exact he) hee).2 (by omega)
      · have := objs_between plA trA (p := m) (p' := q) (by omega) J1.le (fun r h1 h2 => by
          cases he : isEff asA r with
          | false => rfl
          | true =>
            have hle := J1.le
            obtain ⟨a', ha'⟩ : ∃ a', asA[r]? = some a' := ⟨_, List.getElem?_eq_getElem (by omega)⟩
            rcases plA.pos r a' ha' with ⟨h, _⟩ | ⟨e, oe, hoe, rfl⟩
            · simp [isEff, opK, ha', h] at he
            · have hes : e < osA.size := (Array.getElem?_eq_some_iff.1 hoe).1
              have hl := (J1.eff e hes he).2 h2
              have := hfr e (by rw [← A.sA]; exact hes) hl
              omega)
        exact ⟨this.1.symm, this.2.symm⟩
  have hst := same_pre trA trB A.pre hmA
  refine ⟨q0, ⟨?_, ?_, ?_, by omega⟩, ?_⟩
  · rw [J1.size, A.sA, A.sB]
  · intro k hk hl r hr
    rw [A.sB] at hk
    exact J1.clo k (by rw [A.sA]; exact hk) hl r (A.up k hk r (A.aB k hk (.inl (hfr k hk hl)) r hr))
  · intro e he hee
    rw [A.sB] at he
    by_cases h : psA e < m
    · rw [A.p1 e he h]
      refine hql e he ?_
      rw [A.p1 e he h] at hee
      simp only [isEff, opK, A.pre _ h] at hee ⊢
      exact hee
    · constructor
      · exact fun hl => absurd (hfr e he hl) h
      · intro hlt
        have := A.p2 e he (by omega)
        omega
  · refine inv.ext (fun t => ?_) ?_ ?_
    · simp only [stL, getR_regsL]
      have e1 : (∃ k, listed.getD k false = true ∧ dstOf osB k = some t) ↔ ∃ k, listed.getD k false = true ∧ dstOf osA k = some t := by
        constructor
        · rintro ⟨k, h1, h2⟩
          exact ⟨k, h1, by rw [A.dA k (hin k h1), ← A.dB k (hin k h1)]; exact h2⟩
        · rintro ⟨k, h1, h2⟩
          exact ⟨k, h1, by rw [A.dB k (hin k h1), ← A.dA k (hin k h1)]; exact h2⟩
      by_cases h : ∃ k, listed.getD k false = true ∧ dstOf osA k = some t
      · rw [if_pos h, if_pos (e1.2 h)]
        obtain ⟨k, h1, h2⟩ := h
        have hk := hin k h1
        have hf := hfr k hk h1
        rw [← regs_done plA trA h2 hf hmA, ← regs_done plB trB (i := k) (by rw [A.dB k hk, ← A.dA k hk]; exact h2) (by rw [A.p1 k hk hf]; exact hf) hmB, hst m (Nat.le_refl _)]
      · rw [if_neg h, if_neg (fun h' => h (e1.1 h'))]
    · show (stB q0).l = (stA q).l
      rw [← hst q0 hq0, hobj.1]
    · show (stB q0).o = (stA q).o
      rw [← hst q0 hq0, hobj.2]
theorem leaf_steps : ∀ {t : AC} {os : Array Oper} {x : EX × St}, okTree P N OS os t = true → run call lp t s = some x → ∃ s1, steps call s (lfAs t) = some s1
  | .reg _ as lv ob, os, x, hk, e => by
    simp only [run] at e
    split at e
    · rename_i s1 h1; exact ⟨s1, h1⟩
    · cases e
  | .alt i j m a b, os, x, hk, e => by
    simp only [okTree, Bool.and_eq_true] at hk
    simp only [run] at e
    split at e
    · rename_i x1 y1 h1 h2
      exact leaf_steps (t := a) hk.1.1 h1
    · cases e
  | .skip, _, _, h, _ | .nest _ _ _ _ _ _ _, _, _, h, _ | .seq _ _, _, _, h, _ | .cond _ _ _, _, _, h, _ | .block _ _, _, _, h, _ | .loop _ _ _, _, _, h, _ | .exit _, _, _, h, _ | .ret, _, _, h, _ => by simp [okTree] at h
theorem alt_both {i j m : Nat} {a b : AC} {x : EX × St} (e : run call lp (.alt i j m a b) s = some x) : run call lp a s = some x ∧ run call lp b s = some x := by
  simp only [run] at e
  split at e
  · rename_i x1 y1 h1 h2
    split at e
    · rename_i hxy
      simp only [Option.some.injEq] at e
      subst e; subst hxy
      exact ⟨h1, h2⟩
    · cases e
  · cases e
/-- Every order. -/
theorem tree_any (hs : SoundC P call) (hlv : Lv n S0) {Q : Exit → Act → World → Prop} {x : EX × St} (hQ : ∀ {lv ob : List Nat} {s1 : St} {a' : Act} {w' : World}, fin (s1.keep lv ob) = some x → Inv N c0 S0 w0 n s1 a' w' → Q .normal a' w') :
    ∀ (t : AC) (os : Array Oper), okTree P N OS os t = true → run call lp t s = some x → (∀ k, k < OS.size → ∀ r ∈ afterOf OS k, r ∈ afterOf os k) →
    ∀ (s' : St) (st : Nat → St), Tr call (lfAs t) s s' st →
    ∀ (fuel : Nat) (listed : Array Bool) (q : Nat) (a : Act) (w : World), (∀ k, k < OS.size → ∀ r ∈ afterOf os k, r ∈ afterOf OS k ∨ listed.getD r false = true) → J (lfOs os t) (lfAs t) (psF (lfPs t)) listed q → (List.range OS.size).countP (fun i => !listed.getD i false) ≤ fuel →
      Inv N c0 S0 w0 n (stL (lfOs os t) s s' st listed q) a w → wpAny P .any OS Q fuel listed a w
  | .reg ord as lv ob, os, hk, e, hup, s', st, tr => by
    have pl := okTree_plan hk
    simp only [okTree, Bool.and_eq_true, List.all_eq_true, List.mem_range, List.contains_iff_mem, beq_iff_eq] at hk
    obtain ⟨⟨h1, h2⟩, h3⟩ := hk
    refine leaf_any hs hlv pl tr h3 hup (fun k o ai ho ha => ?_) (fun a' w' inv' => ?_)
    · have := (h2 k (Array.getElem?_eq_some_iff.1 ho).1).2
      rw [ho] at this
      rw [show as[psF ord k]? = some ai from ha] at this
      exact this
    · simp only [run] at e
      split at e
      · rename_i s1 hs1
        obtain ⟨st2, t1, t2, t3⟩ := trace hs1
        have := same_pre tr ⟨t1, t2, t3⟩ (m := as.length) (fun _ _ => rfl) (Nat.le_refl _) as.length (Nat.le_refl _)
        have h4 : s' = s1 := by rw [← tr.e, ← t2]; exact this
        subst h4
        exact hQ e inv'
      · cases e
  | .alt i j m ta tb, os, hk, e, hup, sA, stA, trA => by
    have plA : Plan P N (lfOs (addE os j i) ta) (lfAs ta) (psF (lfPs ta)) := okTree_plan (t := .alt i j m ta tb) hk
    simp only [okTree, Bool.and_eq_true] at hk
    obtain ⟨⟨k1, k2⟩, k3⟩ := hk
    have A := altB_spec k3
    have plB := okTree_plan k2
    obtain ⟨e1, e2⟩ := alt_both e
    obtain ⟨sB, hsB⟩ := leaf_steps k2 e2
    obtain ⟨stB, b1, b2, b3⟩ := trace hsB
    have trB : Tr call (lfAs tb) s sB stB := ⟨b1, b2, b3⟩
    by_cases hos : j < os.size ∧ i < os.size
    case neg =>
      exfalso
      have h := A.ij
      have hj : j < (lfOs (addE os j i) ta).size := by rw [A.sA]; exact A.lj
      have hsz : ∀ (t : AC) (os : Array Oper), (lfOs os t).size = os.size := by
        intro t
        induction t with
        | alt i j m a b ih1 ih2 => intro os; simp only [lfOs]; rw [ih1, addE_size]
        | _ => intro os; rfl
      rw [hsz, addE_size] at hj
      have h2 := A.sA
      rw [hsz, addE_size] at h2
      exact hos ⟨hj, by rw [h2]; exact A.li⟩
    obtain ⟨hosj, hosi⟩ := hos
    have upA : ∀ k, k < OS.size → ∀ r ∈ afterOf OS k, r ∈ afterOf (addE os j i) k := fun k hk r hr => (addE_after hosj).2 (.inr (hup k hk r hr))
    have upB : ∀ k, k < OS.size → ∀ r ∈ afterOf OS k, r ∈ afterOf (addE os i j) k := fun k hk r hr => (addE_after hosi).2 (.inr (hup k hk r hr))
    have ihA := tree_any hs hlv hQ ta (addE os j i) k1 e1 upA sA stA trA
    have ihB := tree_any hs hlv hQ tb (addE os i j) k2 e2 upB sB stB trB
    have upAA : ∀ k, k < OS.size → ∀ r ∈ afterOf OS k, r ∈ afterOf (lfOs (addE os j i) ta) k := fun k hk r hr => A.up k hk r (hup k hk r hr)
    intro fuel
    induction fuel with
    | zero =>
      intro listed q a w hE j1 hc inv
      have hall : listed.getD i false = true := by
        cases hu : listed.getD i false with
        | true => rfl
        | false =>
          have := List.countP_eq_zero.1 (Nat.le_zero.1 hc) i (List.mem_range.2 A.li)
          simp [hu] at this
      exact ihA 0 listed q a w (fun k hk r hr => by
        rcases (addE_after hosj).1 hr with ⟨rfl, rfl⟩ | h
        · exact .inr hall
        · exact hE k hk r h) j1 hc inv
    | succ fuel ih =>
      intro listed q a w hE j1 hc inv
      cases hli : listed.getD i false with
      | true =>
        exact ihA (fuel + 1) listed q a w (fun k hk r hr => by
          rcases (addE_after hosj).1 hr with ⟨rfl, rfl⟩ | h
          · exact .inr hli
          · exact hE k hk r h) j1 hc inv
      | false =>
      have hsz : (lfOs (addE os j i) ta).size = OS.size := A.sA
      have hlj : listed.getD j false = false := by
        cases hu : listed.getD j false with
        | false => rfl
        | true =>
          have := j1.clo j (by show j < (lfOs (addE os j i) ta).size; rw [hsz]; exact A.lj) hu i A.ij
          rw [hli] at this; cases this
      have hls : listed.size = OS.size := by rw [j1.size]; exact hsz
      refine ⟨fun h => absurd h (some_ready plA hsz upAA hls A.li hli), fun k hk => ?_⟩
      obtain ⟨o, ho, hks, hms, hun, haf⟩ := ready_un hls hk
      have haf1 : ∀ r ∈ afterOf os k, listed.getD r false = true := fun r hr => (hE k hks r hr).elim (haf r) id
      have hfr := A.front plA j1.clo hli hlj
      have hcount := count_less hks hms hun hc
      have hE' : ∀ k', k' < OS.size → ∀ r ∈ afterOf os k', r ∈ afterOf OS k' ∨ (listed.setIfInBounds k true).getD r false = true := fun k' hk' r hr => (hE k' hk' r hr).imp id fun h => (listed_set hms).2 (.inr h)
      have fork : ∀ {b : Prop} [Decidable b] {x y z' : Prop}, (if b then x else y) → if b then x ∨ z' else y := by
        intro b _ x y z' h
        split
        · rename_i hb; rw [if_pos hb] at h; exact .inl h
        · rename_i hb; rw [if_neg hb] at h; exact h
      unfold wpOp
      simp only [ho]
      by_cases hkj : k = j
      · subst hkj
        obtain ⟨q2, j2, inv2⟩ := A.cross plA plB trA trB j1 hli hlj inv
        have hks' : k < (lfOs (addE os i k) tb).size := by rw [A.sB]; exact hks
        obtain ⟨o', ai, ho', hai, _, hck, _⟩ := op_at plB hks'
        obtain ⟨s2, q', h1, h2, h3, h4, h5⟩ := one_more plB trB j2 hks' hai hun (fun r hr => haf1 r (A.aB k hks (.inr rfl) r hr))
        exact fork (ai_ok (Q := Q) (K := wpAny P .any OS Q fuel (listed.setIfInBounds k true)) hs hlv inv2 (A.okB o ai ho hai) h1 (fun a' w' inv' => ihB fuel _ q' a' w' (fun k' hk' r hr => by
          rcases (addE_after hosi).1 hr with ⟨rfl, rfl⟩ | h
          · exact .inr ((listed_set hms).2 (.inl rfl))
          · exact hE' k' hk' r h) h2 hcount (inv'.ext h3 h4 h5)))
      · have hki : psF (lfPs ta) k < m ∨ k = i := by
          rcases A.cov k hks with h | h | h | ⟨r, hr, hr1, hr2⟩
          · exact .inl h
          · exact .inr h
          · exact absurd h hkj
          · exact absurd (hfr r hr1 (haf1 r hr)) hr2
        have hks' : k < (lfOs (addE os j i) ta).size := by rw [hsz]; exact hks
        obtain ⟨o', ai, ho', hai, _, hck, _⟩ := op_at plA hks'
        obtain ⟨s2, q', h1, h2, h3, h4, h5⟩ := one_more plA trA j1 hks' hai hun (fun r hr => haf1 r (A.aA k hks hki r hr))
        refine fork (ai_ok (Q := Q) (K := wpAny P .any OS Q fuel (listed.setIfInBounds k true)) hs hlv inv (A.okA k o ai ho hai) h1 (fun a' w' inv' => ?_))
        exact ih (listed.setIfInBounds k true) q' a' w' hE' h2 hcount (inv'.ext h3 h4 h5)
  | .skip, _, h, _, _, _, _, _ | .nest _ _ _ _ _ _ _, _, h, _, _, _, _, _ | .seq _ _, _, h, _, _, _, _, _ | .cond _ _ _, _, h, _, _, _, _, _ | .block _ _, _, h, _, _, _, _, _ | .loop _ _ _, _, h, _, _, _, _, _ | .exit _, _, h, _, _, _, _, _ | .ret, _, h, _, _, _, _, _ => by simp [okTree] at h
theorem tree_ok (hs : SoundC P call) (hlv : Lv n S0) (hm : P.follows .mixedOrders = true) {t : AC} (hk : okTree P N os os t = true) {id : Nat} {Q : Exit → Act → World → Prop} {x : EX × St} (e : run call lp t s = some x) (inv : Inv N c0 S0 w0 n s a w) (hQ : ∀ {lv ob : List Nat} {s1 : St} {a' : Act} {w' : World}, fin (s1.keep lv ob) = some x → Inv N c0 S0 w0 n s1 a' w' → Q .normal a' w') :
    (Code.region id os true).wp P Q a w := by
  obtain ⟨s', hs'⟩ := leaf_steps hk e
  obtain ⟨st, t1, t2, t3⟩ := trace hs'
  have tr : Tr call (lfAs t) s s' st := ⟨t1, t2, t3⟩
  have hsz : ∀ (t : AC) (os : Array Oper), (lfOs os t).size = os.size := by
    intro t
    induction t with
    | alt i j m a b ih1 ih2 => intro os; simp only [lfOs]; rw [ih1, addE_size]
    | _ => intro os; rfl
  refine wp_region_any hm (tree_any hs hlv hQ t os hk e (fun _ _ _ h => h) s' st tr _ _ 0 _ _ (fun _ _ _ h => .inl h) ⟨by simp [hsz], ?_, ?_, Nat.zero_le _⟩ ?_ ?_)
  · intro i hi h
    rw [hsz] at hi
    simp [hi] at h
  · intro e he _
    rw [hsz] at he
    simp [he]
  · exact Nat.le_trans List.countP_le_length (by simp)
  · have hinv : Inv N c0 S0 w0 n s a { w with drawn := w.drawn + 1 } := by
      obtain ⟨c, fp, sim, ha, hg, hd, hn⟩ := inv
      exact ⟨c, fp, ⟨sim.rg, sim.st, sim.df, sim.sz⟩, ha, hg.trans ⟨rfl, rfl, rfl, Nat.le_refl _, fun _ _ => rfl, Nat.le_succ _⟩, hd, hn⟩
    refine hinv.ext (fun t => ?_) (by simp [stL, tr.z]) (by simp [stL, tr.z])
    simp only [stL, getR_regsL]
    rw [if_neg]
    rintro ⟨i, h, hi⟩
    have := dst_lt hi
    rw [hsz] at this
    simp [this] at h
end
end Go.Am
end
section
/- A slice that a row's cell alone leads to, handed to a call that writes into it: the call sees it alone. -/
set_option linter.unusedSimpArgs false
set_option linter.unusedVariables false
namespace Go.Am
open Go.RowKit
def solo (ob : OB) : Sto := fun id => if id = (0, 0) then some ob else none
theorem gt_solo (ob : OB) : gt [[(0, ob)]] = solo ob := by
  funext id
  obtain ⟨a, b⟩ := id
  simp only [gt, St.get, solo, Prod.mk.injEq]
  rcases a with _ | _ | a
  · simp [getO, eq_comm]
  · simp [getO]
  · simp
section
variable {P : Program} {c : Ctx} {S : Sto} {w : World} {fp : Id → List Nat}
theorem solo_some {ob ob' : OB} {id : Id} (h : solo ob id = some ob') : id = (0, 0) ∧ ob' = ob := by
  unfold solo at h
  split at h
  · simp only [Option.some.injEq] at h; exact ⟨by assumption, h.symm⟩
  · cases h
theorem cell_ok (ok : StOK c S (hp w) fp) {id : Id} {i j k : Nat} {xs : List PV} {e x : PV} (hs : S id = some (.row k xs)) (hel : xs[i]? = some e) (hcj : e.cells[j]? = some x) :
    ∃ u p, w.cell? ⟨(c.L id).blk, i * k + j, none⟩ = some u ∧ R c S (hp w) x [u] p := by
  obtain ⟨htx, hkx, ro⟩ := ok.ob id _ hs
  have hq : i < xs.length := (List.getElem?_eq_some_iff.1 hel).1
  rcases ro with ro | ⟨fq, hb, ⟨cur, et, wsr, g1, g2, g3, g4, g5, g6⟩, hfp⟩
  · rw [ro.1] at hq; simp at hq
  obtain ⟨w1, we, w2, f1, fe, f2, e1, e2, e3, e4, e5, e6⟩ := Rs_at hkx g5 hel
  obtain ⟨hek, hef⟩ := hkx e (List.mem_of_getElem? hel)
  obtain ⟨hec, her⟩ := Rs_cells_of_R hef e5
  obtain ⟨a1, ae, a2, p1, p2, p3, q1, q2, q3, q4, q5, q6⟩ := Rs_at (Ls_one hec) her hcj
  obtain ⟨u, rfl⟩ := List.length_eq_one_iff.1 q3
  refine ⟨u, p2, ?_, q5⟩
  rw [cell_of_block g1]
  have h1 : wsr[i * k + j]? = some u := by
    rw [e1, q1, ← e2, List.append_assoc, List.getElem?_append_right (by omega)]
    have h2 : w1.length + j - w1.length = j := by omega
    have h3 : a1.length = j := by rw [q2]; omega
    rw [h2, List.append_assoc, List.append_assoc, List.getElem?_append_right (by omega), h3]
    simp
  rw [← g6, List.getElem?_take] at h1
  split at h1
  · simpa using h1
  · cases h1
open Classical in
theorem nest_ok (ok : StOK c S (hp w) fp) {id : Id} {i j k k' : Nat} {xs ys : List PV} {e : PV} (hs : S id = some (.row k xs)) (hel : xs[i]? = some e) (hcj : e.cells[j]? = some (.sl true k' ys)) :
    ∃ (c2 : Ctx) (f2 : List Nat) (u : Value), w.cell? ⟨(c.L id).blk, i * k + j, none⟩ = some u ∧ u.oneCell' = true ∧ StOK c2 (solo (.row k' ys)) (hp w) (fun _ => f2) ∧ RVal c2 (solo (.row k' ys)) (hp w) (.own (0, 0) ys.length) u ∧
      ∀ w' c' fp' ys', StOK c' (solo (.row k' ys')) (hp w') fp' → Adv c2 c' (solo (.row k' ys)) (solo (.row k' ys')) → ys'.length = ys.length →
        ∃ c3 fp3, StOK c3 (upd S id (.row k (xs.set i (unAgg e (e.cells.set j (.sl true k' ys')))))) (hp w') fp3 ∧ Adv c c3 S (upd S id (.row k (xs.set i (unAgg e (e.cells.set j (.sl true k' ys')))))) := by
  obtain ⟨htx, hkx, ro⟩ := ok.ob id _ hs
  have hq : i < xs.length := (List.getElem?_eq_some_iff.1 hel).1
  rcases ro with ro | ⟨fq, hb, ⟨cur, et, wsr, g1, g2, g3, g4, g5, g6⟩, hfp⟩
  · rw [ro.1] at hq; simp at hq
  obtain ⟨w1, we, w2, f1, fe, f2, e1, e2, e3, e4, e5, e6⟩ := Rs_at hkx g5 hel
  obtain ⟨hek, hef⟩ := hkx e (List.mem_of_getElem? hel)
  obtain ⟨hec, her⟩ := Rs_cells_of_R hef e5
  obtain ⟨a1, ae, a2, p1, p2, p3, q1, q2, q3, q4, q5, q6⟩ := Rs_at (Ls_one hec) her hcj
  obtain ⟨u, rfl⟩ := List.length_eq_one_iff.1 q3
  have hone : u.oneCell' = true := by
    have := (Rs_cells_len hec her).2
    exact this u (by rw [q1]; simp)
  obtain ⟨hty, hky, A, cp, hu, alt⟩ : trees ys = true ∧ Ls k' ys ∧ ∃ A cp, [u] = [Value.slice A ys.length cp] ∧ ((ys = [] ∧ cp = 0 ∧ p2 = []) ∨ ∃ g cur e ws fq, A = some ⟨g, 0, none⟩ ∧ (hp w) g = some (.cells cur e (0, 0)) ∧ ys.length ≤ cp ∧ cp ≤ maxLen ∧ cur.size = cp * k' ∧ Rs c S (hp w) ys ws fq ∧ cur.toList.take (ys.length * k') = ws ∧ p2 = g :: fq) := by
    simpa only [R] using q5
  have hu : u = .slice A ys.length cp := by simpa using hu
  have hjl : j < e.cells.length := (List.getElem?_eq_some_iff.1 hcj).1
  obtain ⟨l, hlb, hlc, hl⟩ : ∃ l : Loc, l.base = A ∧ l.cap = cp ∧ ((ys = [] ∧ l.cap = 0 ∧ p2 = []) ∨ ∃ cur e ws fq, l.base = some ⟨l.blk, 0, none⟩ ∧ (hp w) l.blk = some (.cells cur e (0, 0)) ∧ ys.length ≤ l.cap ∧ l.cap ≤ maxLen ∧ cur.size = l.cap * k' ∧ Rs c S (hp w) ys ws fq ∧ cur.toList.take (ys.length * k') = ws ∧ p2 = l.blk :: fq) := by
    rcases alt with ⟨b1, b2, b3⟩ | ⟨g, cur, e, ws, fq, b1, b2, b3, b4, b5, b6, b7, b8⟩
    · exact ⟨⟨0, A, cp⟩, rfl, rfl, .inl ⟨b1, b2, b3⟩⟩
    · exact ⟨⟨g, A, cp⟩, rfl, rfl, .inr ⟨cur, e, ws, fq, b1, b2, b3, b4, b5, b6, b7, b8⟩⟩
  have hndf := ok.nd id _ hs
  rw [hfp] at hndf
  have hp2 : ∀ b ∈ p2, b ∈ fp id := fun b hb => by rw [hfp, e4, q4]; simp [hb]
  have hperm : ((c.L id).blk :: (f1 ++ (p1 ++ p2 ++ p3) ++ f2)).Nodup := by rw [← q4, ← e4]; exact hndf
  have hrest : ∀ b ∈ (c.L id).blk :: (f1 ++ (p1 ++ p3) ++ f2), b ∈ fp id := fun b hb => by
    rw [hfp, e4, q4]
    simp only [List.mem_cons, List.mem_append] at hb ⊢
    rcases hb with h | (h | h | h) | h <;> simp [h]
  have hnd2 : p2.Nodup := by
    refine List.Nodup.sublist ?_ hperm
    refine List.Sublist.cons _ ?_
    refine List.Sublist.trans ?_ (List.sublist_append_left _ _)
    refine List.Sublist.trans ?_ (List.sublist_append_right _ _)
    exact List.Sublist.trans (List.sublist_append_right _ _) (List.sublist_append_left _ _)
  have hdis : ∀ b ∈ p2, b ∉ (c.L id).blk :: (f1 ++ (p1 ++ p3) ++ f2) := by
    intro b hb h
    obtain ⟨z1, z2⟩ := List.nodup_cons.1 hperm
    rcases List.mem_cons.1 h with h | h
    · exact z1 (by rw [← h]; simp [hb])
    · obtain ⟨y1, y2, y3⟩ := List.nodup_append.1 z2
      obtain ⟨x1, x2, x3⟩ := List.nodup_append.1 y1
      obtain ⟨v1, v2, v3⟩ := List.nodup_append.1 x2
      obtain ⟨u1, u2, u3⟩ := List.nodup_append.1 v1
      simp only [List.mem_append] at h
      rcases h with (h | h | h) | h
      · exact x3 b h b (by simp [hb]) rfl
      · exact u3 b h b hb rfl
      · exact v3 b (by simp [hb]) b h rfl
      · exact y3 b (by simp [hb]) b h rfl
  -- what the call sees: the nested slice; all else is hidden
  let Hd : Nat → Prop := fun b => (∃ id' ob', id' ≠ id ∧ S id' = some ob' ∧ b ∈ fp id') ∨ b ∈ (c.L id).blk :: (f1 ++ (p1 ++ p3) ++ f2)
  have hHd : ∀ b, Hd b → ∃ id' ob', S id' = some ob' ∧ b ∈ fp id' := by
    rintro b (⟨id', ob', _, h1, h2⟩ | h)
    · exact ⟨id', ob', h1, h2⟩
    · exact ⟨id, _, hs, hrest b h⟩
  have hHp : ∀ b ∈ p2, ¬ Hd b := by
    rintro b hb (⟨id', ob', hne, h1, h2⟩ | h)
    · exact ok.dj id id' _ ob' hs h1 (Ne.symm hne) b (hp2 b hb) h2
    · exact hdis b hb h
  let c2 : Ctx := ⟨c.F, fun _ => l, fun b => if Hd b then hp w b else c.X b⟩
  have hro : RO c2 (solo (.row k' ys)) (hp w) (0, 0) (.row k' ys) p2 := by
    refine ⟨hty, hky, ?_⟩
    rcases hl with b1 | ⟨cur, e, ws, fq, b1, b2, b3, b4, b5, b6, b7, b8⟩
    · exact .inl b1
    · exact .inr ⟨fq, b1, ⟨cur, e, ws, b2, b3, b4, b5, Rs.data (c := c) (c' := c2) (S := S) (h := hp w) (fun _ _ h => h) ys ws fq hty (fun _ _ => rfl) b6, b7⟩, b8⟩
  have hok2 : StOK c2 (solo (.row k' ys)) (hp w) (fun _ => p2) := by
    constructor
    · intro id' ob' h
      obtain ⟨rfl, rfl⟩ := solo_some h
      exact hro
    · intro id' ob' h; exact hnd2
    · intro x y o1 o2 h1 h2 hne
      exact absurd ((solo_some h1).1.trans (solo_some h2).1.symm) hne
    · intro id' ob' h b hb
      have := ok.nF id _ hs b (hp2 b hb)
      refine ⟨this.1, ?_⟩
      show (if Hd b then hp w b else c.X b) = none
      rw [if_neg (hHp b hb)]; exact this.2
    · rintro b o (h | h)
      · exact ok.okF b o (.inl h)
      · have h : (if Hd b then hp w b else c.X b) = some o := h
        split at h
        · exact h
        · exact ok.okF b o (.inr h)
    · intro b o h
      show (if Hd b then hp w b else c.X b) = none
      split
      · rename_i hh
        obtain ⟨id', ob', h1, h2⟩ := hHd b hh
        exact (ok.nF id' ob' h1 b h2).no (.inl h)
      · exact ok.dis b o h
  have hcell : w.cell? ⟨(c.L id).blk, i * k + j, none⟩ = some u := by
    rw [cell_of_block g1]
    have h1 : wsr[i * k + j]? = some u := by
      rw [e1, q1, ← e2, List.append_assoc, List.getElem?_append_right (by omega)]
      have h2 : w1.length + j - w1.length = j := by omega
      have h3 : a1.length = j := by rw [q2]; omega
      rw [h2, List.append_assoc, List.append_assoc, List.getElem?_append_right (by omega), h3]
      simp
    rw [← g6, List.getElem?_take] at h1
    split at h1
    · simpa using h1
    · cases h1
  refine ⟨c2, p2, u, hcell, hone, hok2, ⟨rfl, u, rfl, hone, ?_⟩, ?_⟩
  · simp only [OwnOK, solo, if_true]
    exact ⟨Nat.le_refl _, fun _ => by show u = .slice l.base ys.length l.cap; rw [hlb, hlc]; exact hu⟩
  -- behind the call
  intro w' c' fp' ys' ok' ha hlen
  have hX : c'.X = c2.X := ha.X
  have hsame : ∀ b, Hd b → hp w' b = hp w b ∧ ∃ o, c'.X b = some o := by
    intro b hb
    obtain ⟨id', ob', h1, h2⟩ := hHd b hb
    have hlt := ok.lt h1 h2
    have ho : hp w b = some w.heap[b] := Array.getElem?_eq_getElem hlt
    have hx : c'.X b = some w.heap[b] := by
      rw [hX]; show (if Hd b then hp w b else c.X b) = _
      rw [if_pos hb]; exact ho
    exact ⟨by rw [ho]; exact ok'.okF b _ (.inr hx), _, hx⟩
  have hcX : ∀ b o, c.X b = some o → c'.X b = some o := by
    intro b o h
    rw [hX]; show (if Hd b then hp w b else c.X b) = _
    rw [if_neg]
    · exact h
    · intro hh
      obtain ⟨id', ob', h1, h2⟩ := hHd b hh
      exact (ok.nF id' ob' h1 b h2).no (.inr h)
  have hLl : c'.L (0, 0) = l := by
    obtain ⟨ob', h1, h2⟩ := ha.st (0, 0) (.row k' ys) (by simp [solo])
    obtain ⟨_, rfl⟩ := solo_some h1
    exact h2.2.2 hlen
  obtain ⟨hty', hky', ro'⟩ := ok'.ob (0, 0) (.row k' ys') (by simp [solo])
  rw [hLl] at ro'
  have hnd' := ok'.nd (0, 0) (.row k' ys') (by simp [solo])
  have hU' := ok'.nF (0, 0) (.row k' ys') (by simp [solo])
  have hfX : ∀ b ∈ fp' (0, 0), ¬ Hd b := by
    intro b hb hh
    obtain ⟨_, o, hx⟩ := hsame b hh
    exact (hU' b hb).no (.inr hx)
  let c3 : Ctx := ⟨c'.F, c.L, c.X⟩
  let row' := xs.set i (unAgg e (e.cells.set j (.sl true k' ys')))
  have hrow' : row' = xs.set i (unAgg e (e.cells.set j (.sl true k' ys'))) := rfl
  have hadv : Adv c c3 S (upd S id (.row k row')) := by
    refine ⟨ha.F, rfl, fun x o hxo => ?_⟩
    by_cases hxi : x = id
    · subst hxi
      rw [hs] at hxo
      simp only [Option.some.injEq] at hxo
      subst hxo
      exact ⟨.row k row', by simp [upd], rfl, by simp [hrow'], fun _ => rfl⟩
    · exact ⟨o, by simp [upd, hxi, hxo], StepOB.rfl' rfl⟩
  -- the nested slice as its cell leads to it
  have hR : R c3 (upd S id (.row k row')) (hp w') (.sl true k' ys') [u] (fp' (0, 0)) := by
    simp only [R]
    refine ⟨hty', hky', A, cp, by rw [hu, hlen], ?_⟩
    rcases ro' with ⟨b1, b2, b3⟩ | ⟨fq', b1, ⟨cur', et', ws', b2, b3, b4, b5, b6, b7⟩, b8⟩
    · exact .inl ⟨b1, by rw [← hlc]; exact b2, b3⟩
    · exact .inr ⟨l.blk, cur', et', ws', fq', by rw [← hlb]; exact b1, b2, by rw [← hlc]; exact b3, by rw [← hlc]; exact b4, by rw [← hlc]; exact b5, Rs.data (c := c') (c' := c3) (S := solo (.row k' ys')) (h := hp w') (fun _ _ h => h) ys' ws' fq' hty' (fun _ _ => rfl) b6, b7, b8⟩
  -- all else as before: in the new world
  have hdat : ∀ b ∈ f1 ++ (p1 ++ p3) ++ f2, hp w' b = hp w b := fun b hb => (hsame b (.inr (List.mem_cons_of_mem _ hb))).1
  have hput := q6 .undef [u] [] ⟨rfl, u, rfl, hone⟩
  have hcallU : (e.cells.set j .undef).all cellP = true := List.all_eq_true.2 fun z hz => by
    rcases List.mem_or_eq_of_mem_set hz with h | h
    · exact List.all_eq_true.1 hec z h
    · rw [h]; rfl
  obtain ⟨hnewU, hnfU, hncU⟩ := unAgg_R hef (by simp) hcallU hput
  rw [← q1, List.append_nil] at hnewU
  have hsetU := e6 _ _ _ hnewU
  rw [← e1] at hsetU
  have htreeC : trees (e.cells.set j .undef) = true := by
    have := trees_get htx hel
    rw [← tree_cells hef] at this
    exact trees_set this rfl
  have htreeU : trees (xs.set i (unAgg e (e.cells.set j .undef))) = true := trees_set htx (by rw [← tree_cells hnfU, hncU]; exact htreeC)
  have hlsU : Ls k (xs.set i (unAgg e (e.cells.set j .undef))) := fun z hz => by
    rcases List.mem_or_eq_of_mem_set hz with hz | rfl
    · exact hkx z hz
    · exact ⟨by rw [hncU, List.length_set, hek], hnfU⟩
  have hU1 : Rs c3 (upd S id (.row k row')) (hp w') (xs.set i (unAgg e (e.cells.set j .undef))) wsr (f1 ++ (p1 ++ p3) ++ f2) :=
    Rs.data (c := c) (c' := c3) (S := S) (h := hp w) ha.F _ _ _ htreeU hdat hsetU
  obtain ⟨W1, WE, W2, F1, FE, F2, E1, E2, E3, E4, E5, E6⟩ := Rs_at hlsU hU1 (show (xs.set i (unAgg e (e.cells.set j .undef)))[i]? = some (unAgg e (e.cells.set j .undef)) by simp [hq])
  obtain ⟨_, herU⟩ := Rs_cells_of_R hnfU E5
  rw [hncU] at herU
  obtain ⟨b1, be, b2, r1, r2, r3, s1, s2, s3, s4, s5, s6⟩ := Rs_at (Ls_one hcallU) herU (show (e.cells.set j .undef)[j]? = some .undef by simp [hjl])
  obtain ⟨v, rfl⟩ := List.length_eq_one_iff.1 s3
  have hWE : W1 = w1 ∧ WE = we ∧ W2 = w2 := by
    have h := E1.symm.trans e1
    simp only [List.append_assoc] at h
    obtain ⟨h1, h2⟩ := List.append_inj h (by rw [E2, e2])
    obtain ⟨h3, h4⟩ := List.append_inj h2 (by rw [E3, e3])
    exact ⟨h1, h3, h4⟩
  obtain ⟨rfl, rfl, rfl⟩ := hWE
  have hbe : b1 = a1 ∧ v = u ∧ b2 = a2 := by
    have h := s1.symm.trans q1
    simp only [List.append_assoc] at h
    obtain ⟨h1, h2⟩ := List.append_inj h (by rw [s2, q2])
    simp only [List.cons_append, List.nil_append, List.cons.injEq] at h2
    exact ⟨h1, h2.1, h2.2⟩
  obtain ⟨rfl, rfl, rfl⟩ := hbe
  have hr2 : r2 = [] := s5.1
  subst hr2
  simp only [List.append_nil] at s4
  have hcellsN := s6 (.sl true k' ys') [v] (fp' (0, 0)) hR
  rw [List.set_set] at hcellsN
  have hcallN : (e.cells.set j (.sl true k' ys')).all cellP = true := List.all_eq_true.2 fun z hz => by
    rcases List.mem_or_eq_of_mem_set hz with h | h
    · exact List.all_eq_true.1 hec z h
    · rw [h]; rfl
  obtain ⟨hnewN, hnfN, hncN⟩ := unAgg_R hef (by simp) hcallN hcellsN
  rw [← s1] at hnewN
  have hsetN := E6 _ _ _ hnewN
  rw [List.set_set, ← E1] at hsetN
  have htreeN : trees row' = true := trees_set htx (by
    rw [← tree_cells hnfN, hncN]
    have := trees_get htx hel
    rw [← tree_cells hef] at this
    exact trees_set this hty')
  have hlsN : Ls k row' := fun z hz => by
    rcases List.mem_or_eq_of_mem_set hz with hz | rfl
    · exact hkx z hz
    · exact ⟨by rw [hncN, List.length_set, hek], hnfN⟩
  -- its footprint
  have hold : F1 ++ (r1 ++ r3) ++ F2 = f1 ++ (p1 ++ p3) ++ f2 := by rw [E4, s4]
  have hmem : ∀ b ∈ F1 ++ (r1 ++ fp' (0, 0) ++ r3) ++ F2, b ∈ f1 ++ (p1 ++ p3) ++ f2 ∨ b ∈ fp' (0, 0) := by
    intro b hb
    rw [← hold]
    simp only [List.mem_append] at hb ⊢
    rcases hb with (h | (h | h) | h) | h <;> simp [h]
  have hnd1 : ((c.L id).blk :: (f1 ++ (p1 ++ p3) ++ f2)).Nodup := by
    refine List.Nodup.sublist ?_ hperm
    refine List.Sublist.cons_cons _ ?_
    refine List.Sublist.append (List.Sublist.append (List.Sublist.refl _) ?_) (List.Sublist.refl _)
    exact List.Sublist.append (List.sublist_append_left _ _) (List.Sublist.refl _)
  have hndN : ((c.L id).blk :: (F1 ++ (r1 ++ fp' (0, 0) ++ r3) ++ F2)).Nodup := by
    obtain ⟨z1, z2⟩ := List.nodup_cons.1 hnd1
    refine List.nodup_cons.2 ⟨fun h => ?_, ?_⟩
    · rcases hmem _ h with h | h
      · exact z1 h
      · exact hfX _ h (.inr List.mem_cons_self)
    · have hpm : (F1 ++ (r1 ++ fp' (0, 0) ++ r3) ++ F2).Perm (fp' (0, 0) ++ (F1 ++ (r1 ++ r3) ++ F2)) := by
        have h1 : F1 ++ (r1 ++ fp' (0, 0) ++ r3) ++ F2 = (F1 ++ r1) ++ (fp' (0, 0) ++ (r3 ++ F2)) := by simp [List.append_assoc]
        have h2 : F1 ++ (r1 ++ r3) ++ F2 = (F1 ++ r1) ++ (r3 ++ F2) := by simp [List.append_assoc]
        rw [h1, h2]
        exact List.perm_append_comm_assoc _ _ _
      rw [hpm.nodup_iff, hold]
      refine List.nodup_append.2 ⟨hnd', z2, fun x hx y hy e => ?_⟩
      subst e
      exact hfX x hx (.inr (List.mem_cons_of_mem _ hy))
  have hold' : ∀ b, Hd b → c.U b → c3.U b := by
    intro b hb hu
    obtain ⟨_, o, hx⟩ := hsame b hb
    refine ⟨?_, hu.2⟩
    show c'.F b = none
    cases h : c'.F b with
    | none => rfl
    | some o' => have := ok'.dis b o' h; rw [hx] at this; cases this
  have hnew' : ∀ b ∈ fp' (0, 0), c3.U b := by
    intro b hb
    refine ⟨(hU' b hb).1, ?_⟩
    show c.X b = none
    cases h : c.X b with
    | none => rfl
    | some o => have h2 := (hU' b hb).2; rw [hcX b o h] at h2; cases h2
  refine ⟨c3, setF fp id ((c.L id).blk :: (F1 ++ (r1 ++ fp' (0, 0) ++ r3) ++ F2)), ?_, hadv⟩
  refine ok.step hadv (fun x => x = id) ?_ ?_ ?_ ?_
  · intro x ob' hx hne
    have hx' : S x = some ob' := by simpa [upd, hne] using hx
    refine ⟨hx', rfl, by simp [setF, hne], fun b hb => ?_⟩
    have hh : Hd b := .inl ⟨x, ob', hne, hx', hb⟩
    exact ⟨(hsame b hh).1, hold' b hh (ok.nF x ob' hx' b hb)⟩
  · rintro x ob' hx rfl
    have he : ob' = .row k row' := by simpa [upd, eq_comm] using hx
    subst he
    have hf0 : setF fp x ((c.L x).blk :: (F1 ++ (r1 ++ fp' (0, 0) ++ r3) ++ F2)) x = (c.L x).blk :: (F1 ++ (r1 ++ fp' (0, 0) ++ r3) ++ F2) := by simp [setF]
    rw [hf0]
    refine ⟨⟨htreeN, hlsN, .inr ⟨F1 ++ (r1 ++ fp' (0, 0) ++ r3) ++ F2, hb, ⟨cur, et, wsr, ?_, by simpa [hrow'] using g2, g3, g4, hsetN, by simpa [hrow'] using g6⟩, rfl⟩⟩, hndN, fun b hbm => ?_, fun id' ob'' hne' hs' b hbm => ?_⟩
    · rw [(hsame _ (.inr List.mem_cons_self)).1]; exact g1
    · rcases List.mem_cons.1 hbm with h | h
      · exact hold' b (.inr (by rw [h]; exact List.mem_cons_self)) (ok.nF x _ hs b (hrest b (by rw [h]; exact List.mem_cons_self)))
      · rcases hmem b h with h | h
        · exact hold' b (.inr (List.mem_cons_of_mem _ h)) (ok.nF x _ hs b (hrest b (List.mem_cons_of_mem _ h)))
        · exact hnew' b h
    · have hs'' : S id' = some ob'' := by simpa [upd, hne'] using hs'
      simp only [setF, hne', if_false]
      intro hb'
      rcases List.mem_cons.1 hbm with h | h
      · exact ok.dj x id' _ ob'' hs hs'' (Ne.symm hne') b (hrest b (by rw [h]; exact List.mem_cons_self)) hb'
      · rcases hmem b h with h | h
        · exact ok.dj x id' _ ob'' hs hs'' (Ne.symm hne') b (hrest b (List.mem_cons_of_mem _ h)) hb'
        · exact hfX b h (.inl ⟨id', ob'', hne', hs'', hb'⟩)
  · rintro b o (h | h)
    · exact ok'.okF b o (.inl h)
    · exact ok'.okF b o (.inr (hcX b o h))
  · intro b o h
    show c.X b = none
    cases h2 : c.X b with
    | none => rfl
    | some o' => have := ok'.dis b o h; rw [hcX b o' h2] at this; cases this
end
end Go.Am
end
section
/- The region that hands a nested slice to a call. -/
set_option linter.unusedSimpArgs false
set_option linter.unusedVariables false
namespace Go.Am
open Go.RowKit
section
variable {P : Program} {N n : Nat} {c0 : Ctx} {S0 : Sto} {w0 : World} {call : CallF}
theorem list_ok2 (hs : SoundC P call) (hlv : Lv n S0) {ops : Array Oper} {Q : Exit → Act → World → Prop} {os2 : List Oper} : ∀ {as : List AI} {os : List Oper} {s s' : St} {a : Act} {w : World}, okAIs P N ops as os = true → steps call s as = some s' → Inv N c0 S0 w0 n s a w →
    (∀ a' w', Inv N c0 S0 w0 n s' a' w' → wpList P ops Q os2 a' w') → wpList P ops Q (os ++ os2) a w
  | [], os, s, s', a, w, hk, e, inv, hQ => by
    cases os with
    | nil =>
      simp only [steps, Option.some.injEq] at e
      subst e
      exact hQ _ _ inv
    | cons _ _ => simp [okAIs] at hk
  | ai :: as, os, s, s', a, w, hk, e, inv, hQ => by
    cases os with
    | nil => simp [okAIs] at hk
    | cons o os =>
      simp only [okAIs, Bool.and_eq_true] at hk
      simp only [steps] at e
      split at e
      · rename_i s1 h1
        refine wpList_step fun K hK => ai_ok hs hlv inv hk.1 h1 (fun a' w' inv' => hK _ _ ?_)
        exact list_ok2 hs hlv hk.2 e inv' hQ
      · cases e
def okMid (p t : Nat) (m : AI) : Bool := match m.op, m.d, m.g with
  | .move, some d, none => decide (d ≠ p) && decide (d ≠ t)
  | _, _, _ => false
theorem move_op {o : Oper} (h : okOp P .move o.op = true) (ρ : Operand → Value) (w : World) : ∃ x, opArgs o.op = [x] ∧ (execOp ρ o).run P w = .ok (.value (ρ x)) w := by
  obtain ⟨dst, op, type, pos, after, guard⟩ := o
  simp only at h ⊢
  cases op with
  | move x => exact ⟨x, rfl, by simp [execOp]⟩
  | assign x => exact ⟨x, rfl, by simp [execOp]⟩
  | call c =>
    unfold okOp at h
    obtain ⟨cal, args, ts⟩ := c
    cases cal <;> simp [okBuiltin] at h
  | _ => simp [okOp] at h
/-- Moves: the world stays, and so do two registers. -/
theorem mids_ok (hs : SoundC P call) (hlv : Lv n S0) {ops : Array Oper} {Q : Exit → Act → World → Prop} {os2 : List Oper} {p t : Nat} : ∀ {as : List AI} {os : List Oper} {s s' : St} {a : Act} {w : World}, okAIs P N ops as os = true → as.all (okMid p t) = true → steps call s as = some s' → Inv N c0 S0 w0 n s a w →
    (∀ a', Inv N c0 S0 w0 n s' a' w → a'.tmps.getD p undef = a.tmps.getD p undef → a'.tmps.getD t undef = a.tmps.getD t undef → wpList P ops Q os2 a' w) → wpList P ops Q (os ++ os2) a w
  | [], os, s, s', a, w, hk, _, e, inv, hQ => by
    cases os with
    | nil =>
      simp only [steps, Option.some.injEq] at e
      subst e
      exact hQ _ inv rfl rfl
    | cons _ _ => simp [okAIs] at hk
  | ai :: as, os, s, s', a, w, hk, hm, e, inv, hQ => by
    cases os with
    | nil => simp [okAIs] at hk
    | cons o os =>
      simp only [okAIs, Bool.and_eq_true] at hk
      simp only [List.all_cons, Bool.and_eq_true] at hm
      simp only [steps] at e
      split at e
      · rename_i s1 h1
        obtain ⟨hm1, hm2⟩ := hm
        unfold okMid at hm1
        split at hm1
        · rename_i d hop hd hg
          simp only [Bool.and_eq_true, decide_eq_true_eq] at hm1
          have hk1 := hk.1
          simp only [okAI, Bool.and_eq_true] at hk1
          obtain ⟨⟨⟨⟨k1, k2⟩, k3⟩, k4⟩, k5⟩ := hk1
          have k1 := eq_of_beq k1
          have k2 := okDst_spec k2
          rw [hop] at k5
          simp only [isCall, isChk, Bool.false_eq_true, if_false, Bool.not_false, Bool.true_and] at k5
          -- the operand
          obtain ⟨x, hox, hrun⟩ := move_op k5 a.eval w
          rw [hox] at k4
          obtain ⟨y, hxs, hy⟩ : ∃ y, ai.xs = [y] ∧ opdOK y x = true := by
            cases hx : ai.xs with
            | nil => rw [hx] at k4; simp [opdsOK] at k4
            | cons y ys =>
              rw [hx] at k4
              cases ys with
              | nil => simp only [opdsOK, Bool.and_true] at k4; exact ⟨y, rfl, k4⟩
              | cons _ _ => simp [opdsOK] at k4
          have hs1 : s1 = s.put ai.d (s.ev y) := by
            rw [stepI_eq, hg] at h1
            simp only [stepGo, hop, hxs, List.map_cons, List.map_nil] at h1
            rw [core_core1 rfl] at h1
            simp only [core1, Option.some.injEq] at h1
            exact h1.symm
          have hin : Inv N c0 S0 w0 n s1 (a.put ai.d (a.eval x)) w := by
            rw [hs1]
            exact inv.step (d := ai.d) (ws := []) (w' := w) k2 WsOK.nil (fun c fp sim => ⟨c, fp, sim.st, Adv.refl _ _, opd_RVal sim hy, Grew.refl _⟩)
          have hgd : o.guard = none := by
            rw [hg] at k3
            unfold okG at k3
            split at k3
            · assumption
            · rename_i h _ ; cases h
            · cases k3
          refine wpList_step fun K hK => ?_
          rw [if_pos (by simp [Region.wanted, hgd])]
          unfold Oper.wp
          rw [hrun]
          show K (a.put o.dst (a.eval x)) w
          refine hK _ _ ?_
          rw [← k1]
          obtain ⟨_, _, sim, _⟩ := inv
          have hsz := sim.sz
          refine mids_ok hs hlv hk.2 hm2 e hin (fun a' hi e1 e2 => hQ a' hi ?_ ?_)
          · rw [e1, hd, put_tmps (k2 d hd) hsz, if_neg hm1.1]
          · rw [e2, hd, put_tmps (k2 d hd) hsz, if_neg hm1.2]
        · cases hm1
      · cases e
def okNest (P : Program) (N : Nat) (ops : Array Oper) (pre : List AI) (ld : AI) (mids : List AI) (cl : AI) (post : List AI) (os : List Oper) : Bool :=
  okAIs P N ops pre (os.take pre.length) &&
  match ld.d, ld.xs, cl.xs, os.drop pre.length with
  | some t, [.t p], .f _ :: .t t' :: _, o1 :: os2 =>
    t == t' && p != t && o1.dst == some t && decide (t < N) && o1.guard.isNone && (match o1.op with | .load ty (.tmp p') => p' == p && kindOf P ty == some none | _ => false) &&
    mids.all (okMid p t) && okAIs P N ops mids (os2.take mids.length) &&
    (match os2.drop mids.length with
     | o2 :: os3 => cl.d == o2.dst && okDst N cl.d && o2.guard.isNone && okCall o2.op && opdsOK cl.xs (opArgs o2.op) && okAIs P N ops post os3
     | [] => false)
  | _, _, _, _ => false
theorem sc_RVals {c c' : Ctx} {S S' : Sto} {w w' : World} : ∀ {xs : List PV} {vs : List Value}, xs.all isSc = true → RVals c S (hp w) xs vs → RVals c' S' (hp w') xs vs
  | [], _, _, r => r
  | x :: xs, _, t, ⟨v, ws, e, r1, r2⟩ => by
    simp only [List.all_cons, Bool.and_eq_true] at t
    refine ⟨v, ws, e, ?_, sc_RVals t.2 r2⟩
    cases x <;> first | exact r1 | (have := t.1; simp [isSc] at this)
theorem nest_region (hs : SoundC P call) (hlv : Lv n S0) {ops : Array Oper} {Q : Exit → Act → World → Prop} {pre mids post : List AI} {ld cl : AI} {os : List Oper} {s s1 s2 s3 s4 : St} {a : Act} {w : World} (hk : okNest P N ops pre ld mids cl post os = true)
    (h1 : steps call s pre = some s1) (hpk : peekOK s1 ld = true) (h2 : steps call (s1.put ld.d .undef) mids = some s2) (h3 : nestStep call s2 ld cl = some s3) (h4 : steps call s3 post = some s4) (inv : Inv N c0 S0 w0 n s a w) (hQ : ∀ a' w', Inv N c0 S0 w0 n s4 a' w' → Q .normal a' w') : wpList P ops Q os a w := by
  unfold okNest at hk
  simp only [Bool.and_eq_true] at hk
  obtain ⟨hpre, hk⟩ := hk
  split at hk
  · rename_i t p f t' zs o1 os2 hd hxs hcx hdrop
    simp only [Bool.and_eq_true, decide_eq_true_eq, Option.isNone_iff_eq_none, bne_iff_ne] at hk
    obtain ⟨⟨⟨⟨⟨⟨⟨⟨k1, k2⟩, k3⟩, k4⟩, k5⟩, k6⟩, k7⟩, k8⟩, k9⟩ := hk
    obtain rfl := eq_of_beq k1
    have k3 := eq_of_beq k3
    split at k6
    · rename_i ty p' hop
      simp only [Bool.and_eq_true] at k6
      obtain ⟨kp, kt⟩ := k6
      obtain rfl := eq_of_beq kp
      have kt := eq_of_beq kt
      split at k9
      · rename_i o2 os3 hdrop2
        simp only [Bool.and_eq_true, Option.isNone_iff_eq_none] at k9
        obtain ⟨⟨⟨⟨⟨m1, m2⟩, m3⟩, m4⟩, m5⟩, m6⟩ := k9
        have m1 := eq_of_beq m1
        have m2 := okDst_spec m2
        rw [← List.take_append_drop pre.length os, hdrop]
        refine list_ok2 hs hlv hpre h1 inv (fun a1 w1 inv1 => ?_)
        -- the load
        unfold peekOK at hpk
        rw [hxs] at hpk
        simp only [St.ev] at hpk
        split at hpk
        · rename_i id m i j hrp
          split at hpk
          · rename_i k xs hrow
            simp only [Bool.and_eq_true, decide_eq_true_eq] at hpk
            obtain ⟨hm, hpk⟩ := hpk
            split at hpk
            · rename_i e hel
              simp only [decide_eq_true_eq] at hpk
              obtain ⟨u, addr, hpa, hcell⟩ : ∃ u addr, a1.tmps.getD p' undef = .pointer (some addr) ∧ w1.cell? addr = some u := by
                obtain ⟨c, fp, sim, _⟩ := inv1
                have hr := sim.rg p'
                rw [hrp] at hr
                have hel' : (OB.row k xs).elem m i = some e.cells := by simp [OB.elem, hm, hel]
                obtain ⟨o, vs, ff, e1, e2, e3, e4, _⟩ := elem_at sim.st hrow hel'
                have hlen := (Rs_cells_len e1 e2).1
                have hj : j < vs.length := by rw [hlen]; exact hpk
                exact ⟨vs[j], _, ptr_eq e4 hr, e3 j vs[j] (List.getElem?_eq_getElem hj)⟩
              refine wpList_step fun K hK => ?_
              rw [if_pos (by simp [Region.wanted, k5])]
              have hrun : (execOp a1.eval o1).run P w1 = .ok (.value u) w1 := by
                have hpe : a1.eval (.tmp p') = .pointer (some addr) := hpa
                obtain ⟨dst, op, type, pos, after, guard⟩ := o1
                simp only at hop
                subst hop
                simp [execOp, hpe, Instr.loadAt, Instr.sureAddr, run_loadVar_one kt hcell]
              unfold Oper.wp
              rw [hrun]
              show K (a1.put o1.dst u) w1
              refine hK _ _ ?_
              rw [k3]
              have hsz : N ≤ a1.tmps.size := by obtain ⟨_, _, sim, _⟩ := inv1; exact sim.sz
              have inv1' : Inv N c0 S0 w0 n (s1.put ld.d .undef) (a1.put (some t) u) w1 := by
                rw [hd]
                exact inv1.step (d := some t) (ws := []) (w' := w1) (fun t' e => by cases e; exact k4) WsOK.nil (fun c fp sim => ⟨c, fp, sim.st, Adv.refl _ _, trivial, Grew.refl _⟩)
              have hp1 : (a1.put (some t) u).tmps.getD p' undef = .pointer (some addr) := by rw [put_tmps k4 hsz, if_neg (Ne.symm k2)]; exact hpa
              have ht1 : (a1.put (some t) u).tmps.getD t undef = u := by rw [put_tmps k4 hsz, if_pos rfl]
              rw [← List.take_append_drop mids.length os2, hdrop2]
              refine mids_ok hs hlv k8 k7 h2 inv1' (fun a2 inv2 e1 e2 => ?_)
              rw [hp1] at e1
              rw [ht1] at e2
              -- the call
              refine wpList_step fun K hK => ?_
              rw [if_pos (by simp [Region.wanted, m3])]
              unfold nestStep at h3
              rw [hxs, hcx] at h3
              simp only at h3
              unfold nestCall at h3
              split at h3
              · rename_i id m i j hrp
                split at h3
                · rename_i k xs hrow
                  split at h3
                  · rename_i e hel
                    split at h3
                    · rename_i k' ys hcj
                      split at h3
                      · rename_i hcc
                        obtain ⟨hm, hsc⟩ := hcc
                        split at h3
                        · rename_i r k2 ys' hcall
                          split at h3
                          · rename_i hcc2
                            obtain ⟨rfl, hlen⟩ := hcc2
                            obtain ⟨c, fp, sim, ha0, hg0, hdom, hn⟩ := inv2
                            have hr := opds_RVals sim m5
                            rw [hcx] at hr
                            unfold okCall at m4
                            split at m4
                            · rename_i fo args ts ho
                              rw [ho] at hr m5
                              simp only [opArgs, List.map_cons] at hr
                              obtain ⟨fv, as1, hfe, hrf, hr2⟩ := hr
                              simp only [List.cons.injEq] at hfe
                              obtain ⟨rfl, hae⟩ := hfe
                              obtain ⟨uv, as2, hue, hru, hr3⟩ := hr2
                              obtain ⟨_, cv, hfv, _, hcr⟩ := hrf
                              have hcv : cv = [] := hcr.1
                              subst hcv
                              have hfv : a2.eval fo = .func (.func f) #[] #[] := by simpa using hfv
                              obtain ⟨c2, f2, u2, n1, n2, n3, n4, n5⟩ := nest_ok sim.st hrow hel hcj
                              -- the cell's value is the one that was read
                              have hpp : (Value.pointer (some addr)) = .pointer (some ⟨(c.L id).blk, i * k + j, none⟩) := by
                                have hr := sim.rg p'
                                have hrp' : getR s2.r p' = .ref id m i j := hrp
                                rw [hrp', e1] at hr
                                have hr := (one_of_ref hr).2
                                simp only [RefOK, hrow] at hr
                                exact hr.2 hm
                              have hpp : addr = ⟨(c.L id).blk, i * k + j, none⟩ := by injection hpp with h; injection h
                              rw [hpp, n1] at hcell
                              have hu2 : u2 = u := by injection hcell
                              subst hu2
                              have huv : uv = u2 := by
                                -- the operand is the register
                                rw [hcx] at m5
                                simp only [opArgs, opdsOK, Bool.and_eq_true] at m5
                                obtain ⟨_, m5⟩ := m5
                                cases hal : args.toList with
                                | nil => rw [hal] at m5; simp [opdsOK] at m5
                                | cons y yl =>
                                  rw [hal] at m5 hae
                                  simp only [opdsOK, Bool.and_eq_true] at m5
                                  have hy := m5.1
                                  cases y with
                                  | tmp q =>
                                    have hq : t = q := by simpa [opdOK] using hy
                                    subst hq
                                    rw [hue] at hae
                                    simp only [List.map_cons, List.cons.injEq] at hae
                                    rw [← hae.1]
                                    exact e2
                                  | _ => simp [opdOK] at hy
                              subst huv
                              have hg := hs _ _ _ _ _ hcall
                              have hgs := hg.2 c2 (fun _ => f2) w1 (uv :: as2) (by rw [gt_solo]; exact n3) (by rw [gt_solo]; exact ⟨uv, as2, rfl, n4, sc_RVals hsc hr3⟩)
                              unfold Oper.wp
                              rw [run_call ho hfv hg.1]
                              have hargs : args.map a2.eval ++ #[] = (uv :: as2).toArray := by
                                apply Array.ext'
                                simp only [Array.append_empty, Array.toList_map]
                                exact hae.trans hue
                              rw [hargs]
                              simp only [Oper.upon]
                              refine Calls.mono hgs ?_
                              rintro e' w' ⟨_, v, c', fp', f', rfl, hgrew, hok', hadv', hfree', hret'⟩
                              rw [gt_solo] at hok' hret' hfree'
                              rw [gt_solo, gt_solo] at hadv'
                              obtain ⟨c3, fp3, hok3, hadv3⟩ := n5 w' c' fp' ys' hok' hadv' hlen
                              obtain ⟨_, hv0, hone0⟩ := (show R c' (solo (.row k2 ys')) (hp w') (.sc r) [v] f' from hret')
                              have hgs' := get_sets [(id, OB.row k (xs.set i (unAgg e (e.cells.set j (.sl true k2 ys')))))] s2 (fun x hx => by
                                simp only [List.mem_singleton] at hx
                                subst hx
                                exact get_lvl hrow)
                              have hget : (s2.set id (.row k (xs.set i (unAgg e (e.cells.set j (.sl true k2 ys')))))).get = upd s2.get id (.row k (xs.set i (unAgg e (e.cells.set j (.sl true k2 ys'))))) := hgs'
                              have inv3 : Inv N c0 S0 w0 n s3 (a2.put cl.d v) w' := by
                                refine land_ok (f := []) sim ha0 hg0 hdom hn (s1 := s2.set id (.row k (xs.set i (unAgg e (e.cells.set j (.sl true k2 ys')))))) ?_ ?_ ?_ hgrew (by rw [hget]; exact hok3) (by rw [hget]; exact hadv3) Free.nil ?_ m2 h3
                                · exact sets_r [(id, OB.row k (xs.set i (unAgg e (e.cells.set j (.sl true k2 ys')))))] s2
                                · exact sets_o_length [(id, OB.row k (xs.set i (unAgg e (e.cells.set j (.sl true k2 ys')))))] s2
                                · intro x ob hx
                                  rw [hget] at hx
                                  exact upd_dom hrow x ob hx
                                · exact ⟨rfl, hv0, hone0⟩
                              rw [m1] at inv3
                              exact hK _ _ (list_ok hs hlv m6 h4 inv3 hQ)
                            · cases m4
                          · cases h3
                        · cases h3
                      · cases h3
                    · rename_i hcj
                      split at h3
                      · rename_i hcc
                        obtain ⟨hm, hsc⟩ := hcc
                        split at h3
                        · rename_i r s1' hcb
                          obtain ⟨c, fp, sim, ha0, hg0, hdom, hn⟩ := inv2
                          have hr := opds_RVals sim m5
                          rw [hcx] at hr
                          unfold okCall at m4
                          split at m4
                          · rename_i fo args ts ho
                            rw [ho] at hr m5
                            simp only [opArgs, List.map_cons] at hr
                            obtain ⟨fv, as1, hfe, hrf, hr2⟩ := hr
                            simp only [List.cons.injEq] at hfe
                            obtain ⟨rfl, hae⟩ := hfe
                            obtain ⟨uv, as2, hue, hru, hr3⟩ := hr2
                            obtain ⟨_, cv, hfv, _, hcr⟩ := hrf
                            have hcv : cv = [] := hcr.1
                            subst hcv
                            have hfv : a2.eval fo = .func (.func f) #[] #[] := by simpa using hfv
                            obtain ⟨u2, pf, n1, n4⟩ := cell_ok sim.st hrow hel hcj
                            have hpp : (Value.pointer (some addr)) = .pointer (some ⟨(c.L id).blk, i * k + j, none⟩) := by
                              have hr := sim.rg p'
                              have hrp' : getR s2.r p' = .ref id m i j := hrp
                              rw [hrp', e1] at hr
                              have hr := (one_of_ref hr).2
                              simp only [RefOK, hrow] at hr
                              exact hr.2 hm
                            have hpp : addr = ⟨(c.L id).blk, i * k + j, none⟩ := by injection hpp with h; injection h
                            rw [hpp, n1] at hcell
                            have hu2 : u2 = u := by injection hcell
                            subst hu2
                            have huv : uv = u2 := by
                              rw [hcx] at m5
                              simp only [opArgs, opdsOK, Bool.and_eq_true] at m5
                              obtain ⟨_, m5⟩ := m5
                              cases hal : args.toList with
                              | nil => rw [hal] at m5; simp [opdsOK] at m5
                              | cons y yl =>
                                rw [hal] at m5 hae
                                simp only [opdsOK, Bool.and_eq_true] at m5
                                have hy := m5.1
                                cases y with
                                | tmp q =>
                                  have hq : t = q := by simpa [opdOK] using hy
                                  subst hq
                                  rw [hue] at hae
                                  simp only [List.map_cons, List.cons.injEq] at hae
                                  rw [← hae.1]
                                  exact e2
                                | _ => simp [opdOK] at hy
                            subst huv
                            have hnil : RVal c s2.get (hp w1) .nils uv := by
                              obtain ⟨hp0, A, hA⟩ := n4
                              exact ⟨rfl, A, hA⟩
                            have hall : RVals c s2.get (hp w1) (.nils :: zs.map s2.ev) (uv :: as2) := ⟨uv, as2, rfl, hnil, hr3⟩
                            obtain ⟨g1, _, g5, g6⟩ := callBy_ok hs sim.st hall hcb
                            unfold Oper.wp
                            rw [run_call ho hfv g5]
                            have hargs : args.map a2.eval ++ #[] = (uv :: as2).toArray := by
                              apply Array.ext'
                              simp only [Array.append_empty, Array.toList_map]
                              exact hae.trans hue
                            rw [hargs]
                            simp only [Oper.upon]
                            refine Calls.mono g6 ?_
                            rintro e' w' ⟨⟨g2, g3⟩, v, c', fp', f', rfl, q1, q2, q3, q4, q5⟩
                            have inv3 := land_ok sim ha0 hg0 hdom hn g1 g2 g3 q1 q2 q3 q4 q5 m2 h3
                            rw [m1] at inv3
                            exact hK _ _ (list_ok hs hlv m6 h4 inv3 hQ)
                          · cases m4
                        · cases h3
                      · cases h3
                    · cases h3
                  · cases h3
                · cases h3
              · cases h3
            · cases hpk
          · cases hpk
        · cases hpk
      · cases k9
    · cases k6
  · cases hk
end
end Go.Am
end
section
/- A range over a map: whichever order its entries come in, the machine's end is the program's. -/
set_option linter.unusedSimpArgs false
set_option linter.unusedVariables false
namespace Go.Am
open Go.RowKit
open Go.ChangeMaps (setBlock)
mutual
theorem knownT {n : Nat} : ∀ x : PV, known (fun _ => true) n x = true
  | .undef | .sc _ | .nils | .sl _ _ _ | .iref _ _ | .non => rfl
  | .own _ _ | .ref _ _ _ _ | .sub _ _ _ | .mp _ => by simp [known]
  | .clo _ cs | .agg cs | .tup cs | .bx cs => by simp only [known]; exact knownsT cs
theorem knownsT {n : Nat} : ∀ xs : List PV, knowns (fun _ => true) n xs = true
  | [] => rfl
  | x :: xs => by simp only [knowns, knownT x, knownsT xs, Bool.and_self]
end
/-- Another hidden part. -/
def reX (c : Ctx) (X : Nat → Option Obj) : Ctx := { c with X := X }
theorem RVal.reX {c : Ctx} {X : Nat → Option Obj} {S : Sto} {h h' : Hp} {x : PV} {v : Value} (r : RVal c S h x v) : RVal (reX c X) S h' x v :=
  RVal.kn (c := c) (c' := Am.reX c X) (S := S) (S' := S) (h := h) (h' := h') (n := 0) (g := fun _ => true) (fun _ _ e => e) (fun _ _ => ⟨rfl, rfl⟩) (knownT x) r
theorem StOK.reX {c : Ctx} {X : Nat → Option Obj} {S : Sto} {fp : Id → List Nat} {w w' : World} (ok : StOK c S (hp w) fp) (hfp : ∀ id ob, S id = some ob → ∀ b ∈ fp id, hp w' b = hp w b ∧ X b = none)
    (hok : ∀ b o, c.F b = some o ∨ X b = some o → hp w' b = some o) (hdis : ∀ b o, c.F b = some o → X b = none) : StOK (reX c X) S (hp w') fp :=
  ⟨fun id ob hs => RO.vis (c := c) (c' := Am.reX c X) (S := S) (S' := S) (fun _ _ e => e) (fun _ _ => ⟨rfl, rfl⟩) (fun b hb => (hfp id ob hs b hb).1) (ok.ob id ob hs), ok.nd, ok.dj, fun id ob hs b hb => ⟨(ok.nF id ob hs b hb).1, (hfp id ob hs b hb).2⟩, hok, hdis⟩
theorem StepOB.reX {c c' : Ctx} {X X' : Nat → Option Obj} {id : Id} {a b : OB} (h : StepOB c c' id a b) : StepOB (reX c X) (reX c' X') id a b := h.congr rfl rfl
/-- The hidden part with one block more. -/
def addH (X : Nat → Option Obj) (r : Nat) (o : Obj) : Nat → Option Obj := fun b => if b = r then some o else X b
section
variable {P : Program} {N n : Nat} {c0 : Ctx} {S0 : Sto} {w0 w w' : World} {s s' : St} {a : Act} {X : Nat → Option Obj}
theorem grew_alloc (w : World) (o : Obj) : Grew w (w.alloc o) := by
  refine ⟨rfl, rfl, rfl, by simp, fun a ha => ?_, Nat.le_refl _⟩
  simp only [World.frozen?, World.alloc, Array.getElem?_push]
  rw [if_neg (by omega)]
/-- A block that the program makes for itself. -/
theorem Inv.own (o : Obj) (inv : Inv N (reX c0 X) S0 w0 n s a w) : X w.heap.size = none ∧ Inv N (reX c0 (addH X w.heap.size o)) S0 w0 n s a (w.alloc o) := by
  obtain ⟨c, fp, sim, ha, hg, hdom, hn⟩ := inv
  have hX : c.X = X := ha.X
  have fb := fresh_block sim.st
  have hold : ∀ b, b < w.heap.size → hp (w.alloc o) b = hp w b := fun b hb => hp_alloc_old (by omega)
  have hnew : hp (w.alloc o) w.heap.size = some o := hp_alloc_new
  refine ⟨by rw [← hX]; exact fb.1.2, reX c (addH X w.heap.size o), fp, ⟨fun t => (sim.rg t).reX, sim.st.reX ?_ ?_ ?_, sim.df, sim.sz⟩, ⟨ha.F, rfl, fun id ob h => ?_⟩, hg.trans (grew_alloc w o), hdom, hn⟩
  · intro id ob hs b hb
    have hlt := sim.st.lt hs hb
    refine ⟨hold b hlt, ?_⟩
    simp only [addH]
    rw [if_neg (by omega), ← hX]
    exact (sim.st.nF id ob hs b hb).2
  · intro b x h
    have key : c.F b = some x ∨ c.X b = some x → hp (w.alloc o) b = some x := fun h => by
      have h1 := sim.st.okF b x h
      rw [hold b (hp_lt h1)]; exact h1
    rcases h with h | h
    · exact key (.inl h)
    · simp only [addH] at h
      split at h
      · rename_i e
        subst e
        rw [hnew]; exact h
      · exact key (.inr (by rw [hX]; exact h))
  · intro b x h
    have h1 := hp_lt (sim.st.okF b x (.inl h))
    simp only [addH]
    rw [if_neg (by omega), ← hX]
    exact sim.st.dis b x h
  · obtain ⟨ob', h1, h2⟩ := ha.st id ob h
    exact ⟨ob', h1, h2.congr rfl rfl⟩
theorem frozen_iter {w : World} {r : Nat} {m s q k} (h : w.heap[r]? = some (.mapIter m s q k)) (b : Addr) (hb : b.block = r) : w.frozen? b = false := by
  simp only [World.frozen?, hb, h]
/-- The iterator goes on. -/
theorem Inv.turn {r : Nat} {m s1 q1 k1 m2 s2 q2 k2} {w1 : World} (hw : w1 = w ∨ w1 = w.drew) (inv : Inv N (Am.reX c0 (addH X r (.mapIter m s1 q1 k1))) S0 w0 n s a w) :
    Inv N (Am.reX c0 (addH X r (.mapIter m2 s2 q2 k2))) S0 w0 n s a (setBlock w1 r (.mapIter m2 s2 q2 k2)) := by
  obtain ⟨c, fp, sim, ha, hg, hdom, hn⟩ := inv
  have hX : c.X = addH X r (.mapIter m s1 q1 k1) := ha.X
  have hXr : c.X r = some (.mapIter m s1 q1 k1) := by rw [hX]; simp [addH]
  have hr : w.heap[r]? = some (.mapIter m s1 q1 k1) := sim.st.okF r _ (.inr hXr)
  have hh : w1.heap = w.heap := by rcases hw with rfl | rfl <;> rfl
  have hs2 : (setBlock w1 r (.mapIter m2 s2 q2 k2)).heap = w.heap.setIfInBounds r (.mapIter m2 s2 q2 k2) := by simp only [setBlock, hh]
  have hset := MapKept.heap_set (o' := Obj.mapIter m2 s2 q2 k2) hr
  have hother : ∀ b, b ≠ r → hp (setBlock w1 r (.mapIter m2 s2 q2 k2)) b = hp w b := fun b hb => by
    simp only [hp, hs2]
    exact hset.2 b hb
  have hat : hp (setBlock w1 r (.mapIter m2 s2 q2 k2)) r = some (.mapIter m2 s2 q2 k2) := by
    simp only [hp, hs2]
    exact hset.1
  have hgr : Grew w (setBlock w1 r (.mapIter m2 s2 q2 k2)) := by
    refine ⟨?_, ?_, ?_, ?_, fun x hx => ?_, ?_⟩
    · rcases hw with rfl | rfl <;> rfl
    · rcases hw with rfl | rfl <;> rfl
    · rcases hw with rfl | rfl <;> rfl
    · rw [hs2]; simp
    · by_cases e : x.block = r
      · rw [frozen_iter hr x e]
        have : (setBlock w1 r (.mapIter m2 s2 q2 k2)).heap[r]? = some (.mapIter m2 s2 q2 k2) := hat
        rw [frozen_iter this x e]
      · have := hother x.block e
        simp only [hp] at this
        simp only [World.frozen?, this]
    · rcases hw with rfl | rfl
      · exact Nat.le_refl _
      · show w.drawn ≤ w.drawn + 1
        omega
  refine ⟨reX c (addH X r (.mapIter m2 s2 q2 k2)), fp, ⟨fun t => (sim.rg t).reX, sim.st.reX ?_ ?_ ?_, sim.df, sim.sz⟩, ⟨ha.F, rfl, fun id ob h => ?_⟩, hg.trans hgr, hdom, hn⟩
  · intro id ob hs b hb
    have h1 := (sim.st.nF id ob hs b hb).2
    have hne : b ≠ r := by intro e; rw [e, hXr] at h1; cases h1
    refine ⟨hother b hne, ?_⟩
    rw [hX] at h1
    simp only [addH, if_neg hne] at h1 ⊢
    exact h1
  · intro b x h
    rcases h with h | h
    · have hne : b ≠ r := by intro e; have := sim.st.dis b x h; rw [e, hXr] at this; cases this
      rw [hother b hne]
      exact sim.st.okF b x (.inl h)
    · simp only [addH] at h
      split at h
      · rename_i e
        subst e
        rw [hat]; exact h
      · rename_i e
        rw [hother b e]
        exact sim.st.okF b x (.inr (by rw [hX]; simp only [addH, if_neg e]; exact h))
  · intro b x h
    have h1 := sim.st.dis b x h
    have hne : b ≠ r := by intro e; rw [e, hXr] at h1; cases h1
    rw [hX] at h1
    simp only [addH, if_neg hne] at h1 ⊢
    exact h1
  · obtain ⟨ob', h1, h2⟩ := ha.st id ob h
    exact ⟨ob', h1, h2.congr rfl rfl⟩
/-- What was hidden is hidden no more. -/
theorem Inv.open {r : Nat} {o : Obj} (h0 : X r = none) (inv : Inv N (reX c0 (addH X r o)) S0 w0 n s a w) : Inv N (reX c0 X) S0 w0 n s a w := by
  obtain ⟨c, fp, sim, ha, hg, hdom, hn⟩ := inv
  have hX : c.X = addH X r o := ha.X
  refine ⟨reX c X, fp, ⟨fun t => (sim.rg t).reX, sim.st.reX ?_ ?_ ?_, sim.df, sim.sz⟩, ⟨ha.F, rfl, fun id ob h => ?_⟩, hg, hdom, hn⟩
  · intro id ob hs b hb
    have h1 := (sim.st.nF id ob hs b hb).2
    refine ⟨rfl, ?_⟩
    rw [hX] at h1
    simp only [addH] at h1
    split at h1
    · cases h1
    · exact h1
  · intro b x h
    rcases h with h | h
    · exact sim.st.okF b x (.inl h)
    · refine sim.st.okF b x (.inr ?_)
      rw [hX]
      simp only [addH]
      split
      · rename_i e; subst e; rw [h0] at h; cases h
      · exact h
  · intro b x h
    have h1 := sim.st.dis b x h
    rw [hX] at h1
    simp only [addH] at h1
    split at h1
    · cases h1
    · exact h1
  · obtain ⟨ob', h1, h2⟩ := ha.st id ob h
    exact ⟨ob', h1, h2.congr rfl rfl⟩
/-- The order of maps' entries does not matter. -/
theorem Inv.same (h : SameS s s') (inv : Inv N c0 S0 w0 n s a w) : Inv N c0 S0 w0 n s' a w := by
  obtain ⟨c, fp, sim, ha, hg, hdom, hn⟩ := inv
  obtain ⟨e1, e2, e3⟩ := h
  have cases3 : ∀ id, s.get id = s'.get id ∨ ∃ b es es', s.get id = some (.map b es) ∧ s'.get id = some (.map b es') ∧ es.Perm es' := fun id => by
    have := e3 id
    unfold SameO at this
    split at this
    · rename_i b es b' es' h1 h2
      obtain ⟨rfl, hp⟩ := this
      exact .inr ⟨b, es, es', h1, h2, hp⟩
    · exact .inl this
  have hadv : Adv c c s.get s'.get := ⟨fun _ _ h => h, rfl, fun id ob h => by
    rcases cases3 id with e | ⟨b, es, es', h1, h2, _⟩
    · exact ⟨ob, by rw [← e]; exact h, StepOB.rfl' rfl⟩
    · rw [h1] at h
      simp only [Option.some.injEq] at h
      subst h
      exact ⟨_, h2, rfl⟩⟩
  have hback : ∀ id ob, s'.get id = some ob → ∃ ob', s.get id = some ob' := fun id ob h => by
    rcases cases3 id with e | ⟨b, es, es', h1, h2, _⟩
    · exact ⟨ob, by rw [e]; exact h⟩
    · exact ⟨_, h1⟩
  refine ⟨c, fp, ⟨fun t => ?_, ⟨fun id ob h => ?_, fun id ob h => ?_, fun id id' ob ob' h h' => ?_, fun id ob h => ?_, sim.st.okF, sim.st.dis⟩, sim.df, sim.sz⟩, ha.trans hadv, hg, fun id ob h => ?_, by rw [← e2]; exact hn⟩
  · rw [← e1]
    exact (sim.rg t).adv hadv
  · rcases cases3 id with e | ⟨b, es, es', h1, h2, hp⟩
    · exact (sim.st.ob id ob (by rw [e]; exact h)).adv hadv rfl (fun _ _ => rfl)
    · rw [h2] at h
      simp only [Option.some.injEq] at h
      subst h
      obtain ⟨⟨ms, clock, eq, g1, g2, g3, g4, g5, g6⟩, hf⟩ := sim.st.ob id _ h1
      exact ⟨⟨ms, clock, eq, g1, hp.symm.trans g2, g3.data (fun _ _ h => h), (hp.map _).nodup g4, fun k hk => g5 k ((hp.map _).mem_iff.2 hk), g6⟩, hf⟩
  · obtain ⟨ob', h1⟩ := hback id ob h
    exact sim.st.nd id ob' h1
  · obtain ⟨o1, h1⟩ := hback id ob h
    obtain ⟨o2, h2⟩ := hback id' ob' h'
    exact sim.st.dj id id' o1 o2 h1 h2
  · obtain ⟨o1, h1⟩ := hback id ob h
    exact sim.st.nF id o1 h1
  · obtain ⟨o1, h1⟩ := hback id ob h
    exact hdom id o1 h1
end
end Go.Am
end
section
/- A range over a map: its rounds. -/
set_option linter.unusedSimpArgs false
set_option linter.unusedVariables false
set_option maxHeartbeats 1000000
namespace Go.Am
open Go.RowKit
open Go.ChangeMaps (setBlock)
def okMr (P : Program) (N : Nat) (pre : List AI) (mx : Opd) (it dn dc de : Nat) (en : List AI) (os1 os2 os3 : Array Oper) (c : Operand) : Bool :=
  okAIs P N os1 pre (os1.toList.take pre.length) &&
  (match os1.toList.drop pre.length with
   | [o] => o.dst == some it && o.guard.isNone && (match o.op with | .range t x => opdOK mx x && (mapOf P t).isSome | _ => false)
   | _ => false) &&
  (match os2.toList with
   | [o1, o2] => o1.dst == some dn && o1.guard.isNone && o2.dst == some dc && o2.guard.isNone && (match o1.op with | .next (.tmp i) false => i == it | _ => false) && (match o2.op with | .extract (.tmp i) 0 => i == dn | _ => false)
   | _ => false) &&
  (match c with | .tmp i => i == dc | _ => false) &&
  (match os3.toList with
   | o :: l3 => o.dst == some de && o.guard.isNone && (match o.op with | .entry (.tmp i) => i == it | _ => false) && okAIs P N os3 en l3
   | _ => false) &&
  (decide (it < N) && decide (dn < N) && decide (dc < N) && decide (de < N) && it != dn && it != dc && it != de && dn != dc)
/-- The loop's rounds, from its head. -/
def LW (P : Program) (c : Code) (Q : Exit → Act → World → Prop) (a : Act) (w : World) : Prop := ∀ (b : Frame) (k : List Item) (cs : List Frame),
  ∃ e a' w', Q e a' w' ∧ Arrives P (lone (b.at a (.code c :: .inLoop c :: k)) cs w) b k cs e a' w'
section
variable {P : Program}
theorem LW.wp {c : Code} {Q : Exit → Act → World → Prop} {a : Act} {w : World} (h : LW P c Q a w) : (Code.loop c).wp P Q a w := by
  intro b k cs
  obtain ⟨e, a', w', hq, harr⟩ := h b k cs
  exact ⟨e, a', w', hq, .of_steps (.one step_loop) harr⟩
theorem LW.round {c : Code} {Q : Exit → Act → World → Prop} {a : Act} {w : World} (h : c.wp P (Exit.then (LW P c Q) Q) a w) : LW P c Q a w := by
  intro b k cs
  obtain ⟨e, a₁, w₁, hq, harr⟩ := h b (.inLoop c :: k) cs
  cases e with
  | normal =>
    obtain ⟨e₂, a₂, w₂, hq₂, harr₂⟩ := hq b k cs
    exact ⟨e₂, a₂, w₂, hq₂, .of_steps (Steps.trans harr (.one step_inLoop)) harr₂⟩
  | exit id => exact ⟨_, a₁, w₁, hq, .pass (x := .inLoop c) rfl (fun _ _ => .inl (by simp)) harr⟩
  | goto l => exact ⟨_, a₁, w₁, hq, .pass (x := .inLoop c) rfl (fun _ _ => .inl (by simp)) harr⟩
  | ret => exact ⟨_, a₁, w₁, hq, .pass (x := .inLoop c) rfl (fun _ _ => .inl (by simp)) harr⟩
  | panic ch => exact ⟨_, a₁, w₁, hq, .pass (x := .inLoop c) rfl (fun _ _ => .inl (by simp)) harr⟩
  | outgrown => exact ⟨_, a₁, w₁, hq, .pass (x := .inLoop c) rfl (fun _ _ => .inl (by simp)) harr⟩
def exOf : EX → Exit
  | .normal => .normal
  | .exit n => .exit n
  | .ret => .ret
def Post (N : Nat) (c0 : Ctx) (S0 : Sto) (w0 : World) (n : Nat) (ex : EX) (s' : St) : Exit → Act → World → Prop := fun e a w => e = exOf ex ∧ Inv N c0 S0 w0 n s' a w
/-- One operation that yields a value. -/
theorem wp_yields {ops : Array Oper} {Q : Exit → Act → World → Prop} {o : Oper} {rest : List Oper} {a : Act} {w w' : World} {v : Value} (hg : o.guard = none) (hrun : (execOp a.eval o).run P w = .ok (.value v) w') (h : wpList P ops Q rest (a.put o.dst v) w') : wpList P ops Q (o :: rest) a w := by
  refine wpList_step fun K hK => ?_
  rw [if_pos (by simp [Region.wanted, hg])]
  unfold Oper.wp
  rw [hrun]
  exact hK _ _ h
variable {N n : Nat} {c0 : Ctx} {S0 : Sto} {w0 : World}
theorem noCall_sound : SoundC P noCall := by
  intro f args o r o' h
  cases h
/-- A value of scalars and such is put. -/
theorem Inv.puts {s : St} {a : Act} {w : World} {d : Nat} {ps : List PV} {vs : List Value} (hd : d < N) (inv : Inv N c0 S0 w0 n s a w) (hr : ∀ c fp, Sim N c fp s a w → Adv c0 c S0 s.get → RV1s c s.get (hp w) ps vs) : Inv N c0 S0 w0 n (s.put (some d) (.tup ps)) (a.put (some d) (.tuple vs.toArray)) w := by
  obtain ⟨c, fp, sim, ha, hg, hdom, hn⟩ := inv
  exact ⟨c, fp, sim.put (fun t e => by cases e; exact hd) ⟨vs, rfl, hr c fp sim ha⟩, by rw [get_put]; exact ha, hg, by rw [get_put]; exact hdom, by rw [put_o]; exact hn⟩
theorem Inv.putb {s : St} {a : Act} {w : World} {d : Nat} (b : Bool) (hd : d < N) (inv : Inv N c0 S0 w0 n s a w) : Inv N c0 S0 w0 n (s.put (some d) (.b b)) (a.put (some d) (.bool b)) w := by
  obtain ⟨c, fp, sim, ha, hg, hdom, hn⟩ := inv
  exact ⟨c, fp, sim.put (fun t e => by cases e; exact hd) (sc_of rfl), by rw [get_put]; exact ha, hg, by rw [get_put]; exact hdom, by rw [put_o]; exact hn⟩
theorem Key.val_one (k : Key) : k.val.oneCell' = true := by cases k <;> rfl
def leftZ (seen : Array Nat) (Z : List ((Key × PV) × MapEntry)) : List ((Key × PV) × MapEntry) := Z.filter fun z => !seen.contains z.2.born
theorem leftZ_mem {seen : Array Nat} {Z : List ((Key × PV) × MapEntry)} {ms : Array MapEntry} (hZ : Z.map (·.2) = ms.toList) {e : MapEntry} (he : e ∈ (leftOf ms seen).toList) : ∃ z ∈ leftZ seen Z, z.2 = e := by
  obtain ⟨h1, h2⟩ := mem_left he
  rw [← hZ] at h1
  obtain ⟨z, hz, rfl⟩ := List.mem_map.1 h1
  exact ⟨z, List.mem_filter.2 ⟨hz, by rw [h2]; rfl⟩, rfl⟩
theorem leftZ_none {seen : Array Nat} {Z : List ((Key × PV) × MapEntry)} {ms : Array MapEntry} (hZ : Z.map (·.2) = ms.toList) (h0 : (leftOf ms seen).size = 0) : leftZ seen Z = [] := by
  unfold leftZ
  rw [List.filter_eq_nil_iff]
  intro z hz
  have := all_seen ms seen h0 z.2 (by rw [← hZ]; exact List.mem_map.2 ⟨z, hz, rfl⟩)
  rw [this]
  simp
theorem leftZ_push {seen : Array Nat} {Z : List ((Key × PV) × MapEntry)} (hnd : (Z.map fun z => z.2.born).Nodup) {z : (Key × PV) × MapEntry} (hz : z ∈ leftZ seen Z) : (leftZ seen Z).Perm (z :: leftZ (seen.push z.2.born) Z) := by
  have key : ∀ (Z : List ((Key × PV) × MapEntry)), (Z.map fun z => z.2.born).Nodup → z ∈ leftZ seen Z → (leftZ seen Z).Perm (z :: leftZ (seen.push z.2.born) Z) := by
    intro Z
    induction Z with
    | nil => intro _ h; cases h
    | cons y Z ih =>
      intro hn hz
      simp only [List.map_cons, List.nodup_cons] at hn
      obtain ⟨hy, hn⟩ := hn
      have hps : ∀ b : Nat, (seen.push z.2.born).contains b = (seen.contains b || b == z.2.born) := contains_push seen z.2.born
      by_cases e : y = z
      · subst e
        have hu : seen.contains y.2.born = false := by
          have := (List.mem_filter.1 hz).2
          simpa using this
        have hrest : leftZ (seen.push y.2.born) Z = leftZ seen Z := by
          unfold leftZ
          refine List.filter_congr fun x hx => ?_
          rw [hps]
          have : (x.2.born == y.2.born) = false := by
            rw [beq_eq_false_iff_ne]
            intro e
            exact hy (List.mem_map.2 ⟨x, hx, e⟩)
          rw [this, Bool.or_false]
        have h1 : leftZ seen (y :: Z) = y :: leftZ seen Z := by
          unfold leftZ
          rw [List.filter_cons_of_pos (by rw [hu]; rfl)]
        have h2 : leftZ (seen.push y.2.born) (y :: Z) = leftZ seen Z := by
          have h3 : (seen.push y.2.born).contains y.2.born = true := by rw [hps]; simp
          have h4 : leftZ (seen.push y.2.born) (y :: Z) = leftZ (seen.push y.2.born) Z := by
            unfold leftZ
            rw [List.filter_cons_of_neg (by rw [h3]; simp)]
          rw [h4, hrest]
        rw [h1, h2]
      · have hz2 : z ∈ leftZ seen Z := by
          unfold leftZ at hz
          rw [List.filter_cons] at hz
          split at hz
          · rcases List.mem_cons.1 hz with h | h
            · exact absurd h.symm e
            · exact h
          · exact hz
        have hzm : z ∈ Z := (List.mem_filter.1 hz2).1
        have hne : (y.2.born == z.2.born) = false := by
          rw [beq_eq_false_iff_ne]
          intro e2
          exact hy (by rw [e2]; exact List.mem_map.2 ⟨z, hzm, rfl⟩)
        have ih := ih hn hz2
        have hc : (seen.push z.2.born).contains y.2.born = seen.contains y.2.born := by rw [hps, hne, Bool.or_false]
        unfold leftZ at ih ⊢
        rw [List.filter_cons, List.filter_cons, hc]
        split
        · exact (ih.cons y).trans (List.Perm.swap z y _)
        · exact ih
  exact key Z hnd hz
section
variable {pre : List AI} {mx : Opd} {it dn dc de : Nat} {en : List AI} {os1 os2 os3 : Array Oper} {cc : Operand} {lvE obE lvA obA lvX obX : List Nat} {bd : AC} {x : Code}
theorem rounds_ok {blk r n1 n2 id2 id3 : Nat} {ms : Array MapEntry} {clock : Nat} {Xb : Nat → Option Obj} {cB : Ctx} {S1 : Sto} {w1 : World} (hlv1 : Lv n S1) (hF : cB.F blk = some (.map ms clock))
    (hborn : ∀ e ∈ ms.toList, e.born < clock) (hnd : (ms.toList.map (·.born)).Nodup) (Z : List ((Key × PV) × MapEntry)) (hZ : Z.map (·.2) = ms.toList) {Sz : Sto} {hz0 : Hp} (hZv : ∀ z ∈ Z, z.2.key = z.1.1.val ∧ MV cB Sz hz0 z.1.2 z.2.val)
    (hk : okMr P N pre mx it dn dc de en os1 os2 os3 cc = true)
    (hB : ∀ (s s' : St) (ex : EX) (c0 : Ctx) (S0 : Sto) (w0 : World) (a : Act) (w : World), Lv n S0 → runB bd s = some (ex, s') → Inv N c0 S0 w0 n s a w → x.wp P (Post N c0 S0 w0 n ex s') a w)
    (R : St) {Q : Exit → Act → World → Prop} (hQ : ∀ s' a' w' seen, SameS s' R → Inv N (reX cB (addH Xb r (.mapIter (some blk) clock seen clock))) S1 w1 n s' a' w' → Q (.exit n1) a' w') :
    ∀ (k : Nat) (seen : Array Nat) (s : St) (a : Act) (w : World), (leftZ seen Z).length = k → Inv N (reX cB (addH Xb r (.mapIter (some blk) clock seen clock))) S1 w1 n s a w → getR s.r it = ptrV r →
      (∀ ρ, ((leftZ seen Z).map (·.1)).Perm ρ → ∃ s', mrounds bd (ptrV r) it dn dc de en lvE obE lvA obA lvX obX ρ s = some s' ∧ SameS s' R) →
      LW P (.seq (.region id2 os2 false) (.seq (.cond cc .skip (.exit n1)) (.block n2 (.seq (.region id3 os3 false) x)))) Q a w := by
  unfold okMr at hk
  simp only [Bool.and_eq_true, decide_eq_true_eq, bne_iff_ne] at hk
  obtain ⟨⟨⟨⟨⟨k1, k2⟩, k3⟩, k4⟩, k5⟩, ⟨⟨⟨⟨⟨⟨⟨b1, b2⟩, b3⟩, b4⟩, b5⟩, b6⟩, b7⟩, b8⟩⟩ := hk
  split at k3
  · rename_i o1 o2 hos2
    simp only [Bool.and_eq_true, Option.isNone_iff_eq_none] at k3
    obtain ⟨⟨⟨⟨⟨p1, p2⟩, p3⟩, p4⟩, p5⟩, p6⟩ := k3
    replace p1 := eq_of_beq p1
    replace p3 := eq_of_beq p3
    split at p5
    · rename_i i1 hop1
      obtain rfl := (eq_of_beq p5).symm
      split at p6
      · rename_i i2 hop2
        obtain rfl := (eq_of_beq p6).symm
        split at k4
        · rename_i i3
          obtain rfl := (eq_of_beq k4).symm
          split at k5
          · rename_i o3 l3 hos3
            simp only [Bool.and_eq_true, Option.isNone_iff_eq_none] at k5
            obtain ⟨⟨⟨q1, q2⟩, q3⟩, q4⟩ := k5
            replace q1 := eq_of_beq q1
            split at q3
            · rename_i i4 hop3
              obtain rfl := (eq_of_beq q3).symm
              have hndZ : (Z.map fun z => z.2.born).Nodup := by
                have : (Z.map fun z => z.2.born) = ms.toList.map (·.born) := by rw [← hZ, List.map_map]; rfl
                rw [this]; exact hnd
              intro k
              induction k using Nat.strongRecOn with
              | _ k ih =>
                intro seen s a w hlen inv hit hall
                refine LW.round ?_
                refine wp_seq (wp_region_list ?_)
                rw [hos2]
                obtain ⟨c, fp, sim, ha, hg, hdom, hn⟩ := id inv
                have hX : c.X = addH Xb r (.mapIter (some blk) clock seen clock) := ha.X
                have hr : w.heap[r]? = some (.mapIter (some blk) clock seen clock) := sim.st.okF r _ (.inr (by rw [hX]; simp [addH]))
                have hbk : w.heap[blk]? = some (.map ms clock) := sim.st.okF blk _ (.inl (ha.F blk _ hF))
                have hitv : a.tmps.getD it undef = .pointer (some ⟨r, 0, none⟩) := by
                  have h := sim.rg it
                  rw [hit] at h
                  exact sc_eq h
                have hsz := sim.sz
                obtain ⟨dst1, op1, ty1, pos1, after1, guard1⟩ := o1
                obtain ⟨dst2, op2, ty2, pos2, after2, guard2⟩ := o2
                obtain ⟨dst3, op3, ty3, pos3, after3, guard3⟩ := o3
                simp only at p1 p2 p3 p4 hop1 hop2 hop3 q1 q2
                subst hop1 hop2 hop3
                subst p1 p2 p3 p4 q1 q2
                rcases run_next_at (P := P) w ty1 r blk clock clock seen ms clock hr hbk hborn (Nat.le_refl _) with ⟨h0, hrun⟩ | ⟨e, he, w1', hal, hrun⟩
                · -- nothing is left
                  have hZ0 := leftZ_none hZ h0
                  rw [hZ0] at hall
                  obtain ⟨s', hs', hsame⟩ := hall [] (.refl _)
                  refine wp_yields rfl (v := .tuple #[.bool false]) (w' := w) ?_ ?_
                  · have : a.eval (.tmp it) = .pointer (some ⟨r, 0, none⟩) := hitv
                    simp [execOp, this, hrun]
                  have inv1 : Inv N (reX cB (addH Xb r (.mapIter (some blk) clock seen clock))) S1 w1 n (s.put (some dn) (.tup [.b false])) (a.put (some dn) (.tuple #[.bool false])) w := inv.puts (vs := [.bool false]) b2 (fun _ _ _ _ => ⟨_, [], rfl, ⟨rfl, rfl, rfl⟩, rfl⟩)
                  refine wp_yields rfl (v := .bool false) (w' := w) ?_ ?_
                  · have : (a.put (some dn) (.tuple #[.bool false])).eval (.tmp dn) = .tuple #[.bool false] := by
                      show (a.put (some dn) (.tuple #[.bool false])).tmps.getD dn undef = _
                      rw [put_tmps b2 hsz, if_pos rfl]
                    simp [execOp, this, Instr.extract]
                  have inv2 := inv1.putb (d := dc) false b3
                  show (Code.seq (.cond (.tmp dc) .skip (.exit n1)) _).wp P _ _ _
                  refine wp_seq (wp_cond_false ?_ (wp_exit ?_))
                  · show ((a.put (some dn) (.tuple #[.bool false])).put (some dc) (.bool false)).tmps.getD dc undef = _
                    obtain ⟨_, _, sim1, _⟩ := inv1
                    rw [put_tmps b3 sim1.sz, if_pos rfl]
                  · show Q (.exit n1) _ _
                    simp only [mrounds] at hs'
                    rw [if_pos hit] at hs'
                    split at hs'
                    · rename_i s1 hfin
                      simp only [Option.some.injEq] at hs'
                      subst hs'
                      exact hQ _ _ _ seen hsame (keep_ok hlv1 inv2 hfin).2
                    · cases hs'
                · -- an entry
                  obtain ⟨z, hz, rfl⟩ := leftZ_mem hZ he
                  have hzZ : z ∈ Z := (List.mem_filter.1 hz).1
                  obtain ⟨hzk, hzv⟩ := hZv z hzZ
                  have hperm := leftZ_push hndZ hz
                  have hlt : (leftZ (seen.push z.2.born) Z).length < k := by
                    have := hperm.length_eq
                    simp only [List.length_cons] at this
                    omega
                  obtain ⟨⟨kk, xx⟩, e⟩ := z
                  simp only at hzk hzv hperm hlt hrun
                  refine wp_yields rfl (v := .tuple #[.bool true, e.key, e.val]) (w' := setBlock w1' r (.mapIter (some blk) clock (seen.push e.born) clock)) ?_ ?_
                  · have : a.eval (.tmp it) = .pointer (some ⟨r, 0, none⟩) := hitv
                    simp [execOp, this, hrun]
                  have inv0 : Inv N (reX cB (addH Xb r (.mapIter (some blk) clock (seen.push e.born) clock))) S1 w1 n s a (setBlock w1' r (.mapIter (some blk) clock (seen.push e.born) clock)) := inv.turn hal
                  generalize hw2 : setBlock w1' r (.mapIter (some blk) clock (seen.push e.born) clock) = w2 at inv0 ⊢
                  have mv : ∀ c fp, Sim N c fp s a w2 → Adv (reX cB (addH Xb r (.mapIter (some blk) clock (seen.push e.born) clock))) c S1 s.get → RV1 c s.get (hp w2) xx e.val := fun c fp _ ha => (MV.data (c := cB) (c' := c) (S := Sz) (S' := s.get) (h := hz0) (h' := hp w2) (fun b o h => ha.F b o h) hzv).2.2
                  have inv1 : Inv N (reX cB (addH Xb r (.mapIter (some blk) clock (seen.push e.born) clock))) S1 w1 n (s.put (some dn) (.tup [.b true, .sc kk.val, xx])) (a.put (some dn) (.tuple #[.bool true, e.key, e.val])) w2 :=
                    inv0.puts (vs := [.bool true, e.key, e.val]) b2 (fun c fp hs ha => ⟨_, _, rfl, ⟨rfl, rfl, rfl⟩, _, _, rfl, ⟨rfl, by rw [hzk], Key.val_one kk⟩, _, _, rfl, mv c fp hs ha, rfl⟩)
                  refine wp_yields rfl (v := .bool true) (w' := w2) ?_ ?_
                  · have : (a.put (some dn) (.tuple #[.bool true, e.key, e.val])).eval (.tmp dn) = .tuple #[.bool true, e.key, e.val] := by
                      show (a.put (some dn) (.tuple #[.bool true, e.key, e.val])).tmps.getD dn undef = _
                      rw [put_tmps b2 hsz, if_pos rfl]
                    simp [execOp, this, Instr.extract]
                  have inv2 := inv1.putb (d := dc) true b3
                  have hsz1 : N ≤ (a.put (some dn) (.tuple #[.bool true, e.key, e.val])).tmps.size := by obtain ⟨_, _, s1, _⟩ := inv1; exact s1.sz
                  have hsz2 : N ≤ ((a.put (some dn) (.tuple #[.bool true, e.key, e.val])).put (some dc) (.bool true)).tmps.size := by obtain ⟨_, _, s1, _⟩ := inv2; exact s1.sz
                  show (Code.seq (.cond (.tmp dc) .skip (.exit n1)) _).wp P _ _ _
                  refine wp_seq (wp_cond_true ?_ (wp_skip ?_))
                  · show ((a.put (some dn) (.tuple #[.bool true, e.key, e.val])).put (some dc) (.bool true)).tmps.getD dc undef = _
                    rw [put_tmps b3 hsz1, if_pos rfl]
                  show (Code.block n2 _).wp P _ _ _
                  refine wp_block (wp_seq (wp_region_list ?_))
                  rw [hos3]
                  have hitv2 : ((a.put (some dn) (.tuple #[.bool true, e.key, e.val])).put (some dc) (.bool true)).eval (.tmp it) = .pointer (some ⟨r, 0, none⟩) := by
                    show ((a.put (some dn) (.tuple #[.bool true, e.key, e.val])).put (some dc) (.bool true)).tmps.getD it undef = _
                    rw [put_tmps b3 hsz1, if_neg (fun h => b6 h.symm), put_tmps b2 hsz, if_neg (fun h => b5 h.symm)]
                    exact hitv
                  have hr2 : w2.heap[r]? = some (.mapIter (some blk) clock (seen.push e.born) clock) := by
                    obtain ⟨c', fp', sim', ha', _⟩ := inv0
                    have hX' : c'.X = addH Xb r (.mapIter (some blk) clock (seen.push e.born) clock) := ha'.X
                    exact sim'.st.okF r _ (.inr (by rw [hX']; simp [addH]))
                  have hbk2 : w2.heap[blk]? = some (.map ms clock) := by
                    obtain ⟨c', fp', sim', ha', _⟩ := inv0
                    exact sim'.st.okF blk _ (.inl (ha'.F blk _ hF))
                  have hem : e ∈ ms.toList := (mem_left he).1
                  have hent := run_entry_at (P := P) w2 r blk clock seen ms clock e hr2 hbk2 hem hnd
                  refine wp_yields rfl (v := .tuple #[e.key, e.val]) (w' := w2) ?_ ?_
                  · simp [execOp, hitv2, hent]
                  have inv3 := inv2.puts (d := de) (ps := [.sc kk.val, xx]) (vs := [e.key, e.val]) b4 (fun c fp hs ha => ⟨_, _, rfl, ⟨rfl, by rw [hzk], Key.val_one kk⟩, _, _, rfl, (MV.data (c := cB) (c' := c) (S := Sz) (h := hz0) (h' := hp w2) (fun b o h => ha.F b o h) hzv).2.2, rfl⟩)
                  -- the rounds of the machine
                  obtain ⟨s0', hs0', hsame0⟩ := hall ((kk, xx) :: (leftZ (seen.push e.born) Z).map (·.1)) (by simpa using hperm.map (·.1))
                  have hstep : ∃ s3 s4 s5 s6, steps noCall (((s.put (some dn) (.tup [.b true, .sc kk.val, xx])).put (some dc) (.b true)).put (some de) (.tup [.sc kk.val, xx])) en = some s3 ∧ fin (s3.keep lvE obE) = some (.normal, s4) ∧ runB bd s4 = some (.normal, s5) ∧ fin (s5.keep lvA obA) = some (.normal, s6) ∧
                      ∀ ρ, mrounds bd (ptrV r) it dn dc de en lvE obE lvA obA lvX obX ((kk, xx) :: ρ) s = mrounds bd (ptrV r) it dn dc de en lvE obE lvA obA lvX obX ρ s6 := by
                    have hex : ∀ {s s' : St} {ex : EX}, fin s = some (ex, s') → ex = .normal := fun {s s' ex} h => by
                      unfold fin at h
                      split at h
                      · simp only [Option.some.injEq, Prod.mk.injEq] at h; exact h.1.symm
                      · cases h
                    simp only [mrounds] at hs0' ⊢
                    rw [if_pos hit] at hs0'
                    split at hs0'
                    · rename_i s3 h3
                      split at hs0'
                      · rename_i ex4 s4 h4
                        split at hs0'
                        · rename_i s5 h5
                          split at hs0'
                          · rename_i ex6 s6 h6
                            have e4 := hex h4
                            have e6 := hex h6
                            subst e4 e6
                            refine ⟨s3, s4, s5, s6, h3, h4, h5, h6, fun ρ => ?_⟩
                            rw [if_pos hit]
                          · cases hs0'
                        · cases hs0'
                      · cases hs0'
                    · cases hs0'
                  obtain ⟨s3, s4, s5, s6, h3, h4, h5, h6, hrho⟩ := hstep
                  refine list_ok noCall_sound hlv1 q4 h3 inv3 fun a3 w3 inv4 => ?_
                  have inv5 := (keep_ok hlv1 inv4 h4).2
                  show x.wp P _ a3 w3
                  refine wp_mono (hB s4 s5 .normal _ _ _ a3 w3 hlv1 h5 inv5) fun e' a' w' hpost => ?_
                  obtain ⟨rfl, inv6⟩ := hpost
                  have inv7 := (keep_ok hlv1 inv6 h6).2
                  show LW P _ Q a' w'
                  have hit6 : getR s6.r it = ptrV r := by
                    have hm : mrounds bd (ptrV r) it dn dc de en lvE obE lvA obA lvX obX ((leftZ (seen.push e.born) Z).map (·.1)) s6 = some s0' := by rw [← hrho]; exact hs0'
                    generalize (leftZ (seen.push e.born) Z).map (·.1) = ρ at hm
                    cases ρ with
                    | nil =>
                      simp only [mrounds] at hm
                      split at hm
                      · assumption
                      · cases hm
                    | cons y ρ =>
                      obtain ⟨yk, yx⟩ := y
                      simp only [mrounds] at hm
                      split at hm
                      · assumption
                      · cases hm
                  refine ih _ hlt (seen.push e.born) s6 a' w' rfl inv7 hit6 (fun ρ hρ => ?_)
                  obtain ⟨s', e1, e2⟩ := hall ((kk, xx) :: ρ) (by
                    have := hperm.map (fun z : (Key × PV) × MapEntry => z.1)
                    simp only [List.map_cons] at this
                    exact this.trans (hρ.cons _))
                  exact ⟨s', by rw [← hrho]; exact e1, e2⟩
            · cases q3
          · cases k5
        · cases k4
      · cases p6
    · cases p5
  · cases k3
end
end
end Go.Am
end
section
/- A range over a map: the whole of it. -/
set_option linter.unusedSimpArgs false
set_option linter.unusedVariables false
set_option maxHeartbeats 1000000
namespace Go.Am
open Go.RowKit
open Go.ChangeMaps (setBlock)
section
variable {P : Program} {N n : Nat} {c0 c : Ctx} {S0 S : Sto} {w0 w w1 : World} {s : St} {a : Act} {fp : Id → List Nat}
/-- A map stays as it is from now on. -/
theorem StOK.freezeM (ok : StOK c S (hp w) fp) {id : Id} {b : Bool} {es : List (Key × PV)} (hs : S id = some (.map b es)) :
    StOK (addF c (fp id) (hp w)) (upd S id (.fmap b es)) (hp w) (setF fp id []) ∧ Adv c (addF c (fp id) (hp w)) S (upd S id (.fmap b es)) ∧ MapIn (addF c (fp id) (hp w)) (upd S id (.fmap b es)) (addF c (fp id) (hp w)).F (c.L id).blk b es := by
  have hF : ∀ b o, c.F b = some o → (addF c (fp id) (hp w)).F b = some o := by
    intro x o h
    simp only [addF]
    split
    · rename_i hx
      exact (ok.nF id _ hs x hx).no (.inl h)
    · exact h
  have ha : Adv c (addF c (fp id) (hp w)) S (upd S id (.fmap b es)) := by
    refine ⟨hF, rfl, fun x o hx => ?_⟩
    by_cases e : x = id
    · subst e
      rw [hs] at hx
      simp only [Option.some.injEq] at hx
      subst hx
      exact ⟨.fmap b es, by simp [upd], rfl⟩
    · exact ⟨o, by simp [upd, e, hx], StepOB.rfl' rfl⟩
  obtain ⟨hm, hf⟩ := ok.ob id _ hs
  have hmi : MapIn (addF c (fp id) (hp w)) (upd S id (.fmap b es)) (addF c (fp id) (hp w)).F (c.L id).blk b es := by
    obtain ⟨ms, clock, es', h1, h2, h3, h4⟩ := hm
    exact ⟨ms, clock, es', by simp [addF, hf, h1], h2, h3.data hF, h4⟩
  refine ⟨ok.step ha (fun x => x = id) ?_ ?_ ?_ ?_, ha, hmi⟩
  · intro x o hx hne
    have hx' : S x = some o := by simpa [upd, hne] using hx
    refine ⟨hx', rfl, by simp [setF, hne], fun y hy => ⟨rfl, ?_, (ok.nF x o hx' y hy).2⟩⟩
    simp only [addF]
    rw [if_neg (fun hy' => ok.dj x id o _ hx' hs hne y hy hy')]
    exact (ok.nF x o hx' y hy).1
  · intro x o hx e
    subst e
    have ho : o = .fmap b es := by simpa [upd] using hx.symm
    subst ho
    refine ⟨⟨hmi, by simp [setF]⟩, by simp [setF], fun y hy => by simp [setF] at hy, fun _ _ _ _ y hy => by simp [setF] at hy⟩
  · intro y o h
    rcases h with h | h
    · simp only [addF] at h
      split at h
      · exact h
      · exact ok.okF y o (.inl h)
    · exact ok.okF y o (.inr h)
  · intro y o h
    simp only [addF] at h ⊢
    split at h
    · rename_i hy
      exact (ok.nF id _ hs y hy).2
    · exact ok.dis y o h
/-- A run's base, nearer. -/
theorem Inv.near (sim : Sim N c fp s a w) (hn : s.o.length = n) : Inv N (reX c c.X) (hideS s.get n) w n s a w := by
  refine ⟨c, fp, sim, ⟨fun _ _ h => h, rfl, fun id ob h => ?_⟩, Grew.refl w, fun id ob h => ?_, hn⟩
  · obtain ⟨h1, h2⟩ := hideS_some h
    exact ⟨ob, h2, StepOB.rfl' rfl⟩
  · have := get_lvl h
    rcases Nat.lt_or_eq_of_le this with h1 | h1
    · right
      exact ⟨ob, by unfold hideS; rw [if_pos (by omega)]; exact h⟩
    · left; omega
theorem hideS_lv (S : Sto) (n : Nat) : Lv n (hideS S n) := fun i ob h => (hideS_some h).1
/-- And the base that it had. -/
theorem Inv.back (ha : Adv c0 c S0 S) (hlv : Lv n S0) (hg : Grew w0 w1) (hdom : ∀ id ob, S id = some ob → id.1 = n ∨ ∃ ob', S0 id = some ob') (inv : Inv N (reX c c.X) (hideS S n) w1 n s a w) : Inv N c0 S0 w0 n s a w := by
  obtain ⟨c', fp', sim, ha', hg', hdom', hn⟩ := inv
  refine ⟨c', fp', sim, ⟨fun b o h => ha'.F b o (ha.F b o h), ha'.X.trans ha.X, fun id ob h => ?_⟩, hg.trans hg', fun id ob h => ?_, hn⟩
  · obtain ⟨ob1, h1, h2⟩ := ha.st id ob h
    obtain ⟨ob2, h3, h4⟩ := ha'.st id ob1 (by unfold hideS; rw [if_pos (hlv id ob h)]; exact h1)
    exact ⟨ob2, h3, h2.trans (h4.congr rfl rfl)⟩
  · rcases hdom' id ob h with h1 | ⟨ob', h1⟩
    · exact .inl h1
    · exact hdom id ob' (hideS_some h1).2
theorem mrounds_hit {bd : AC} {v : PV} {it dn dc de : Nat} {en : List AI} {lvE obE lvA obA lvX obX : List Nat} : ∀ {ρ : List (Key × PV)} {s s' : St}, mrounds bd v it dn dc de en lvE obE lvA obA lvX obX ρ s = some s' → getR s.r it = v
  | [], s, s', h => by
    simp only [mrounds] at h
    split at h
    · assumption
    · cases h
  | (k, x) :: ρ, s, s', h => by
    simp only [mrounds] at h
    split at h
    · assumption
    · cases h
theorem ents_zip {h : Hp} : ∀ {es : List (Key × PV)} {ms : List MapEntry}, Ents c S h es ms → ∃ Z : List ((Key × PV) × MapEntry), Z.map (·.1) = es ∧ Z.map (·.2) = ms ∧ ∀ z ∈ Z, z.2.key = z.1.1.val ∧ MV c S h z.1.2 z.2.val
  | [], ms, r => by
    simp only [Ents] at r
    subst r
    exact ⟨[], rfl, rfl, fun z hz => by cases hz⟩
  | (k, x) :: es, ms, ⟨e, q, h1, h2, h3, h4⟩ => by
    obtain ⟨Z, z1, z2, z3⟩ := ents_zip h4
    refine ⟨((k, x), e) :: Z, by simp [z1], by simp [z2, h1], fun z hz => ?_⟩
    rcases List.mem_cons.1 hz with rfl | hz
    · exact ⟨h2, h3⟩
    · exact z3 z hz
theorem leftZ_all (Z : List ((Key × PV) × MapEntry)) : leftZ #[] Z = Z := by
  unfold leftZ
  rw [List.filter_eq_self]
  intro z hz
  simp
variable {call : CallF} {pre : List AI} {mx : Opd} {it dn dc de n1 n2 id1 id2 id3 : Nat} {en : List AI} {os1 os2 os3 : Array Oper} {cc : Operand} {lvE obE lvA obA lvX obX : List Nat} {bd : AC} {x : Code}
/-- The loop over an iterator whose map stays as it is, from where the map is known. -/
theorem range_loop {blk : Nat} {b : Bool} {es : List (Key × PV)} {R s2 : St} {t : TypeId} {kt e0 : TypeId} (hlv : Lv n S0) (hk : okMr P N pre mx it dn dc de en os1 os2 os3 cc = true) (hit : it < N)
    (hB : ∀ (s s' : St) (ex : EX) (c0 : Ctx) (S0 : Sto) (w0 : World) (a : Act) (w : World), Lv n S0 → runB bd s = some (ex, s') → Inv N c0 S0 w0 n s a w → x.wp P (Post N c0 S0 w0 n ex s') a w)
    (ha : Adv c0 c S0 s2.get) (hg : Grew w0 w) (hdom : ∀ id ob, s2.get id = some ob → id.1 = n ∨ ∃ ob', S0 id = some ob') (hn : s2.o.length = n) (sim : Sim N c fp s2 a w) (hm : MapIn c s2.get c.F blk b es)
    (hall : ∀ (r : Nat) (es' : List (Key × PV)), es.Perm es' → ∃ s', (match fin ((s2.put (some it) (ptrV r)).keep lvA obA) with
        | some (_, s3) => mrounds bd (ptrV r) it dn dc de en lvE obE lvA obA lvX obX es' s3
        | none => none) = some s' ∧ SameS s' R)
    (ht : P.underlying t = some (.map kt e0)) :
    ∃ a2 w2, (Instr.range t (.map (some blk))).run P w = .ok (.pointer (some ⟨w.heap.size, 0, none⟩)) w2 ∧ a2 = a.put (some it) (.pointer (some ⟨w.heap.size, 0, none⟩)) ∧
      (Code.block n1 (.loop (.seq (.region id2 os2 false) (.seq (.cond cc .skip (.exit n1)) (.block n2 (.seq (.region id3 os3 false) x)))))).wp P (Post N c0 S0 w0 n .normal R) a2 w2 := by
  obtain ⟨ms, clock, es', m1, m2, m3, m4, m5, m6, m7⟩ := hm
  have hbk : w.heap[blk]? = some (.map ms clock) := sim.st.okF blk _ (.inl m1)
  refine ⟨_, _, run_range_map w t kt e0 blk ms clock ht hbk, rfl, ?_⟩
  have inv0 := Inv.near sim hn
  obtain ⟨hX0, inv1⟩ := inv0.own (.mapIter (some blk) clock #[] clock)
  have inv2 : Inv N (reX c (addH c.X w.heap.size (.mapIter (some blk) clock #[] clock))) (hideS s2.get n) w n (s2.put (some it) (ptrV w.heap.size)) (a.put (some it) (.pointer (some ⟨w.heap.size, 0, none⟩))) (w.alloc (.mapIter (some blk) clock #[] clock)) := by
    obtain ⟨c', fp', sim', ha', hg', hdom', hn'⟩ := inv1
    exact ⟨c', fp', sim'.put (fun t e => by cases e; exact hit) (sc_of rfl), by rw [get_put]; exact ha', hg', by rw [get_put]; exact hdom', by rw [put_o]; exact hn'⟩
  obtain ⟨Z, z1, z2, z3⟩ := ents_zip m3
  have hall' := hall w.heap.size
  obtain ⟨s', hs', hsame⟩ := hall' es (.refl _)
  split at hs'
  · rename_i ex3 s3 hfin
    obtain ⟨rfl, inv3⟩ := keep_ok (hideS_lv _ _) inv2 hfin
    refine wp_block (LW.wp ?_)
    have hQ : ∀ s' a' w' seen, SameS s' R → Inv N (reX c (addH c.X w.heap.size (.mapIter (some blk) clock seen clock))) (hideS s2.get n) w n s' a' w' → Exit.inBlock n1 (Post N c0 S0 w0 n .normal R) (.exit n1) a' w' := by
      intro s' a' w' seen hs inv
      show (if n1 = n1 then Post N c0 S0 w0 n .normal R .normal a' w' else _)
      rw [if_pos rfl]
      exact ⟨rfl, Inv.back ha hlv hg hdom ((inv.same hs).open hX0)⟩
    refine rounds_ok (lvE := lvE) (obE := obE) (lvA := lvA) (obA := obA) (lvX := lvX) (obX := obX) (cB := c) (hideS_lv _ _) m1 m6 m7 Z z2 z3 hk hB R hQ _ #[] s3 _ _ rfl inv3 (mrounds_hit hs') (fun ρ hρ => ?_)
    rw [leftZ_all, z1] at hρ
    obtain ⟨s'', e1, e2⟩ := hall' ρ (m2.trans hρ)
    rw [hfin] at e1
    exact ⟨s'', e1, e2⟩
  · cases hs'
theorem mfold_spec {F : PV → List (Key × PV) → Option St} {es : List (Key × PV)} {ex : EX} {R : St} (h : mfold F es = some (ex, R)) : ex = .normal ∧ ∀ (r : Nat) (es' : List (Key × PV)), es.Perm es' → ∃ s', F (ptrV r) es' = some s' ∧ SameS s' R := by
  unfold mfold at h
  split at h
  · split at h
    · rename_i hc
      simp only [Option.some.injEq, Prod.mk.injEq] at h
      obtain ⟨rfl, rfl⟩ := h
      exact ⟨rfl, hc⟩
    · cases h
  · cases h
theorem mrange_ok {s R : St} {ex : EX} (hs : SoundC P call) (hlv : Lv n S0) (hk : okMr P N pre mx it dn dc de en os1 os2 os3 cc = true)
    (hB : ∀ (s s' : St) (ex : EX) (c0 : Ctx) (S0 : Sto) (w0 : World) (a : Act) (w : World), Lv n S0 → runB bd s = some (ex, s') → Inv N c0 S0 w0 n s a w → x.wp P (Post N c0 S0 w0 n ex s') a w)
    (e : mstart bd mx it dn dc de en lvE obE lvA obA lvX obX (steps call s pre) = some (ex, R)) (inv : Inv N c0 S0 w0 n s a w) :
    (Code.seq (.region id1 os1 false) (.block n1 (.loop (.seq (.region id2 os2 false) (.seq (.cond cc .skip (.exit n1)) (.block n2 (.seq (.region id3 os3 false) x))))))).wp P (Post N c0 S0 w0 n ex R) a w := by
  have hk0 := hk
  unfold okMr at hk
  simp only [Bool.and_eq_true, decide_eq_true_eq, bne_iff_ne] at hk
  obtain ⟨⟨⟨⟨⟨k1, k2⟩, k3⟩, k4⟩, k5⟩, ⟨⟨⟨⟨⟨⟨⟨b1, b2⟩, b3⟩, b4⟩, b5⟩, b6⟩, b7⟩, b8⟩⟩ := hk
  split at k2
  · rename_i o ho
    simp only [Bool.and_eq_true, Option.isNone_iff_eq_none] at k2
    obtain ⟨⟨p1, p2⟩, p3⟩ := k2
    replace p1 := eq_of_beq p1
    split at p3
    · rename_i t xo hop
      simp only [Bool.and_eq_true] at p3
      obtain ⟨px, pt⟩ := p3
      obtain ⟨⟨bk, et⟩, hmo⟩ := Option.isSome_iff_exists.1 pt
      obtain ⟨kt, td, ht, _, _⟩ := mapOf_spec hmo
      refine wp_seq (wp_region_list ?_)
      rw [← List.take_append_drop pre.length os1.toList, ho]
      cases h1 : steps call s pre with
      | none => rw [h1] at e; simp [mstart] at e
      | some s1 =>
        rw [h1] at e
        simp only [mstart] at e
        refine list_ok2 hs hlv k1 h1 inv (fun a1 w1 inv1 => ?_)
        obtain ⟨dst, op, ty, pos, after, guard⟩ := o
        simp only at p1 p2 hop
        subst hop p1 p2
        split at e
        · rename_i es s2 hes
          obtain ⟨rfl, hall⟩ := mfold_spec e
          obtain ⟨c, fp, sim, ha, hg, hdom, hn⟩ := inv1
          have hv := opd_RVal sim px
          unfold entsOf at hes
          split at hes
          · -- a nil map
            rename_i hmx
            simp only [Option.some.injEq, Prod.mk.injEq] at hes
            obtain ⟨rfl, rfl⟩ := hes
            rw [hmx] at hv
            have hv := sc_eq hv
            have inv0 := Inv.near sim hn
            obtain ⟨hX0, inv1⟩ := inv0.own (.mapIter none 0 #[] 0)
            have inv2 : Inv N (reX c (addH c.X w1.heap.size (.mapIter none 0 #[] 0))) (hideS s1.get n) w1 n (s1.put (some it) (ptrV w1.heap.size)) (a1.put (some it) (.pointer (some ⟨w1.heap.size, 0, none⟩))) (w1.alloc (.mapIter none 0 #[] 0)) := by
              obtain ⟨c', fp', sim', ha', hg', hdom', hn'⟩ := inv1
              exact ⟨c', fp', sim'.put (fun t e => by cases e; exact b1) (sc_of rfl), by rw [get_put]; exact ha', hg', by rw [get_put]; exact hdom', by rw [put_o]; exact hn'⟩
            obtain ⟨s', hs', hsame⟩ := hall w1.heap.size [] (.refl _)
            refine wp_yields rfl (v := .pointer (some ⟨w1.heap.size, 0, none⟩)) (w' := w1.alloc (.mapIter none 0 #[] 0)) ?_ ?_
            · have := run_range_nilMap (P := P) w1 t kt et ht
              simp [execOp, hv, this]
            show (Code.block n1 _).wp P _ _ _
            split at hs'
            · rename_i ex3 s3 hfin
              obtain ⟨rfl, inv3⟩ := keep_ok (hideS_lv _ _) inv2 hfin
              have hit3 := mrounds_hit hs'
              generalize ha3 : a1.put (some it) (.pointer (some ⟨w1.heap.size, 0, none⟩)) = a3 at inv3 ⊢
              simp only [mrounds] at hs'
              rw [if_pos hit3] at hs'
              split at hs'
              · rename_i ex4 s4 hfin4
                simp only [Option.some.injEq] at hs'
                subst hs'
                refine wp_block (LW.wp (LW.round (wp_seq (wp_region_list ?_))))
                split at k3
                · rename_i o1 o2 hos2
                  simp only [Bool.and_eq_true, Option.isNone_iff_eq_none] at k3
                  obtain ⟨⟨⟨⟨⟨q1, q2⟩, q3⟩, q4⟩, q5⟩, q6⟩ := k3
                  replace q1 := eq_of_beq q1
                  replace q3 := eq_of_beq q3
                  split at q5
                  · rename_i i1 hop1
                    obtain rfl := (eq_of_beq q5).symm
                    split at q6
                    · rename_i i2 hop2
                      obtain rfl := (eq_of_beq q6).symm
                      split at k4
                      · rename_i i3
                        obtain rfl := (eq_of_beq k4).symm
                        rw [hos2]
                        obtain ⟨dst1, op1, ty1, pos1, after1, guard1⟩ := o1
                        obtain ⟨dst2, op2, ty2, pos2, after2, guard2⟩ := o2
                        simp only at q1 q2 q3 q4 hop1 hop2
                        subst hop1 hop2
                        subst q1 q2 q3 q4
                        have hsz3 : N ≤ a3.tmps.size := by obtain ⟨_, _, s1, _⟩ := inv3; exact s1.sz
                        have hitv : a3.eval (.tmp it) = .pointer (some ⟨w1.heap.size, 0, none⟩) := by
                          obtain ⟨c', fp', sim', _⟩ := inv3
                          have h := sim'.rg it
                          rw [hit3] at h
                          exact sc_eq h
                        refine wp_yields rfl (v := .tuple #[.bool false]) (w' := w1.alloc (.mapIter none 0 #[] 0)) ?_ ?_
                        · have := run_next_nilMap (P := P) w1 ty1 0 0 #[]
                          simp [execOp, hitv, this]
                        have inv4 := inv3.puts (d := dn) (ps := [.b false]) (vs := [.bool false]) b2 (fun _ _ _ _ => ⟨_, [], rfl, ⟨rfl, rfl, rfl⟩, rfl⟩)
                        refine wp_yields rfl (v := .bool false) (w' := w1.alloc (.mapIter none 0 #[] 0)) ?_ ?_
                        · have : (a3.put (some dn) (.tuple #[.bool false])).eval (.tmp dn) = .tuple #[.bool false] := by
                            show (a3.put (some dn) (.tuple #[.bool false])).tmps.getD dn undef = _
                            rw [put_tmps b2 hsz3, if_pos rfl]
                          simp [execOp, this, Instr.extract]
                        have inv5 := inv4.putb (d := dc) false b3
                        show (Code.seq (.cond (.tmp dc) .skip (.exit n1)) _).wp P _ _ _
                        refine wp_seq (wp_cond_false ?_ (wp_exit ?_))
                        · show ((a3.put (some dn) (.tuple #[.bool false])).put (some dc) (.bool false)).tmps.getD dc undef = _
                          obtain ⟨_, _, sim1, _⟩ := inv4
                          rw [put_tmps b3 sim1.sz, if_pos rfl]
                        · show (if n1 = n1 then Post N c0 S0 w0 n .normal R .normal _ _ else _)
                          rw [if_pos rfl]
                          have inv6 := (keep_ok (hideS_lv _ _) inv5 hfin4).2
                          exact ⟨rfl, Inv.back ha hlv hg hdom ((inv6.same hsame).open hX0)⟩
                      · cases k4
                    · cases q6
                  · cases q5
                · cases k3
              · cases hs'
            · cases hs'
          · rename_i id hmx
            rw [hmx] at hv
            split at hes
            · -- a map of its own
              rename_i b es1 hget
              simp only [Option.some.injEq, Prod.mk.injEq] at hes
              obtain ⟨rfl, rfl⟩ := hes
              obtain ⟨f1, f2, f3⟩ := sim.st.freezeM hget
              have hlvl := get_lvl hget
              have hgs := get_set s1 id (.fmap b es1) hlvl
              have hvm : a1.eval xo = .map (some (c.L id).blk) := by
                obtain ⟨_, v', e1, _, hm⟩ := (show Am.R c s1.get (hp w1) (.mp id) [a1.eval xo] [] from hv)
                have : a1.eval xo = v' := by simpa using e1
                rw [← this] at hm
                simpa only [MapOK, hget] using hm
              have sim2 : Sim N (addF c (fp id) (hp w1)) (setF fp id []) (s1.set id (.fmap b es1)) a1 w1 := by
                refine ⟨fun t => ?_, by rw [hgs]; exact f1, sim.df, sim.sz⟩
                rw [hgs, show (s1.set id (.fmap b es1)).r = s1.r from by unfold St.set; split <;> rfl]
                exact (sim.rg t).adv f2
              obtain ⟨a2, w2, r1, r2, r3⟩ := range_loop (n1 := n1) (n2 := n2) (id2 := id2) (id3 := id3) (blk := (c.L id).blk) (b := b) (es := es1) (R := R) (t := t) hlv hk0 b1 hB (by rw [hgs]; exact ha.trans f2) hg (by
                rw [hgs]
                intro i ob h
                by_cases hi : i = id
                · subst hi; exact hdom i _ hget
                · exact hdom i ob (by simpa [upd, hi] using h)) (by rw [set_o_length]; exact hn) sim2 (by rw [hgs]; exact f3) hall ht
              subst r2
              refine wp_yields rfl (v := .pointer (some ⟨w1.heap.size, 0, none⟩)) (w' := w2) ?_ r3
              simp [execOp, hvm, r1]
            · -- a map that stays as it is already
              rename_i b es1 hget
              simp only [Option.some.injEq, Prod.mk.injEq] at hes
              obtain ⟨rfl, rfl⟩ := hes
              have hvm : a1.eval xo = .map (some (c.L id).blk) := by
                obtain ⟨_, v', e1, _, hm⟩ := (show Am.R c s1.get (hp w1) (.mp id) [a1.eval xo] [] from hv)
                have : a1.eval xo = v' := by simpa using e1
                rw [← this] at hm
                simpa only [MapOK, hget] using hm
              obtain ⟨hmi, _⟩ := sim.st.ob id _ hget
              obtain ⟨a2, w2, r1, r2, r3⟩ := range_loop (n1 := n1) (n2 := n2) (id2 := id2) (id3 := id3) (blk := (c.L id).blk) (b := b) (es := es1) (R := R) (t := t) hlv hk0 b1 hB ha hg hdom hn sim hmi hall ht
              subst r2
              refine wp_yields rfl (v := .pointer (some ⟨w1.heap.size, 0, none⟩)) (w' := w2) ?_ r3
              simp [execOp, hvm, r1]
            · cases hes
          · cases hes
        · cases e
    · cases p3
  · cases k2
end
end Go.Am
end
section
/- The machine is sound. -/
set_option linter.unusedSimpArgs false
set_option linter.unusedVariables false
namespace Go.Am
open Go.RowKit
/-! #### code -/
def okC (P : Program) (N : Nat) : AC → Code → Bool
  | .skip, .skip => true
  | .reg ord as _ _, .region _ os draw => if draw then okDraw P N os as ord || okLate P N os as ord else okAIs P N os as os.toList
  | .nest pre ld mids cl post _ _, .region _ os draw => !draw && okNest P N os pre ld mids cl post os.toList
  | .seq a b, .seq x y => okC P N a x && okC P N b y
  | .cond c a b, .cond c' x y => opdOK c c' && okC P N a x && okC P N b y
  | .block n a, .block n' x => n == n' && okC P N a x
  | .loop _ _ a, .loop x => okC P N a x
  | .exit n, .exit n' => n == n'
  | .ret, .ret => true
  | .alt i j m a b, .region _ os draw => draw && okTree P N os os (.alt i j m a b)
  | .mrange pre mx it dn dc de en _ _ bd _ _ _ _, .seq (.region _ os1 d1) (.block n1 (.loop (.seq (.region _ os2 d2) (.seq (.cond cc .skip (.exit n1')) (.block _ (.seq (.region _ os3 d3) x)))))) =>
    !d1 && !d2 && !d3 && n1 == n1' && okMr P N pre mx it dn dc de en os1 os2 os3 cc && okC P N bd x
  | _, _ => false
section
variable {P : Program}
def SoundL (P : Program) (loopF : List Nat → List Nat → AC → St → Option (EX × St)) : Prop := ∀ lv ob ac s ex s', loopF lv ob ac s = some (ex, s') → ∀ (N : Nat) (c0 : Ctx) (S0 : Sto) (w0 : World) (n : Nat) (code : Code) (a : Act) (w : World),
  okC P N ac code = true → Lv n S0 → Inv N c0 S0 w0 n s a w → LW P code (Post N c0 S0 w0 n ex s') a w
section
variable {N n : Nat} {c0 : Ctx} {S0 : Sto} {w0 : World} {call : CallF} {loopF : List Nat → List Nat → AC → St → Option (EX × St)}
theorem runB_ok (hm : P.follows .mixedOrders = true) (hlv : Lv n S0) : ∀ (ac : AC) (code : Code) (s s' : St) (ex : EX) (a : Act) (w : World), okC P N ac code = true → runB ac s = some (ex, s') → Inv N c0 S0 w0 n s a w →
    code.wp P (Post N c0 S0 w0 n ex s') a w
  | .skip, code, s, s', ex, a, w, hk, e, inv => by
    cases code <;> simp only [okC] at hk <;> first | (cases hk; done) | skip
    simp only [runB, Option.some.injEq, Prod.mk.injEq] at e
    obtain ⟨rfl, rfl⟩ := e
    exact wp_skip ⟨rfl, inv⟩
  | .reg ord as lv ob, code, s, s', ex, a, w, hk, e, inv => by
    cases code <;> simp only [okC] at hk <;> first | (cases hk; done) | skip
    rename_i id os draw
    simp only [runB] at e
    split at e
    · rename_i s1 h1
      cases draw with
      | true =>
        simp only [if_true, Bool.or_eq_true] at hk
        rcases hk with hk | hk
        · refine draw_ok noCall_sound hlv hm (okDraw_plan hk) h1 inv fun a' w' inv' => ?_
          obtain ⟨rfl, h⟩ := keep_ok hlv inv' e
          exact ⟨rfl, h⟩
        · obtain ⟨os', iA, dA, z, L, pl⟩ := okLate_spec hk
          refine late_ok noCall_sound hlv hm L pl h1 inv fun a' w' inv' => ?_
          obtain ⟨rfl, h⟩ := keep_ok hlv inv' e
          exact ⟨rfl, h⟩
      | false =>
        simp only [Bool.false_eq_true, if_false] at hk
        refine wp_region_list (list_ok noCall_sound hlv hk h1 inv fun a' w' inv' => ?_)
        obtain ⟨rfl, h⟩ := keep_ok hlv inv' e
        exact ⟨rfl, h⟩
    · cases e
  | .seq x y, code, s, s', ex, a, w, hk, e, inv => by
    cases code <;> simp only [okC] at hk <;> first | (cases hk; done) | skip
    rename_i cx cy
    simp only [Bool.and_eq_true] at hk
    simp only [runB] at e
    cases h1 : runB x s with
    | none => rw [h1] at e; cases e
    | some p =>
      obtain ⟨ex1, s1⟩ := p
      have hx := runB_ok hm hlv x cx s s1 ex1 a w hk.1 h1 inv
      refine wp_seq (wp_mono hx fun e' a' w' hq => ?_)
      obtain ⟨rfl, inv'⟩ := hq
      cases ex1 with
      | normal =>
        rw [h1] at e
        exact runB_ok hm hlv y cy s1 s' ex a' w' hk.2 e inv'
      | exit m =>
        rw [h1] at e
        simp only [Option.some.injEq, Prod.mk.injEq] at e
        obtain ⟨rfl, rfl⟩ := e
        exact ⟨rfl, inv'⟩
      | ret =>
        rw [h1] at e
        simp only [Option.some.injEq, Prod.mk.injEq] at e
        obtain ⟨rfl, rfl⟩ := e
        exact ⟨rfl, inv'⟩
  | .cond c x y, code, s, s', ex, a, w, hk, e, inv => by
    cases code <;> simp only [okC] at hk <;> first | (cases hk; done) | skip
    rename_i cc cx cy
    simp only [Bool.and_eq_true] at hk
    simp only [runB] at e
    split at e
    · rename_i t ht
      have hv : a.eval cc = .bool t := by
        obtain ⟨c, fp, sim, _⟩ := inv
        have := opd_RVal sim hk.1.1
        rw [ht] at this
        exact sc_eq this
      refine wp_cond hv ?_
      cases t with
      | true =>
        simp only [if_true] at e
        simp only [if_true]
        exact runB_ok hm hlv x cx s s' ex a w hk.1.2 e inv
      | false =>
        simp only [Bool.false_eq_true, if_false] at e
        simp only [Bool.false_eq_true, if_false]
        exact runB_ok hm hlv y cy s s' ex a w hk.2 e inv
    · cases e
  | .block m x, code, s, s', ex, a, w, hk, e, inv => by
    cases code <;> simp only [okC] at hk <;> first | (cases hk; done) | skip
    rename_i id cx
    simp only [Bool.and_eq_true] at hk
    obtain rfl := eq_of_beq hk.1
    simp only [runB] at e
    cases h1 : runB x s with
    | none => rw [h1] at e; cases e
    | some p =>
      obtain ⟨ex1, s1⟩ := p
      have hx := runB_ok hm hlv x cx s s1 ex1 a w hk.2 h1 inv
      refine wp_block (wp_mono hx fun e' a' w' hq => ?_)
      obtain ⟨rfl, inv'⟩ := hq
      rw [h1] at e
      cases ex1 with
      | normal =>
        simp only [Option.some.injEq, Prod.mk.injEq] at e
        obtain ⟨rfl, rfl⟩ := e
        exact ⟨rfl, inv'⟩
      | exit q =>
        simp only at e
        simp only [exOf, Exit.inBlock]
        split at e
        · rename_i hq
          simp only [Option.some.injEq, Prod.mk.injEq] at e
          obtain ⟨rfl, rfl⟩ := e
          rw [if_pos hq]
          exact ⟨rfl, inv'⟩
        · rename_i hq
          simp only [Option.some.injEq, Prod.mk.injEq] at e
          obtain ⟨rfl, rfl⟩ := e
          rw [if_neg hq]
          exact ⟨rfl, inv'⟩
      | ret =>
        simp only [Option.some.injEq, Prod.mk.injEq] at e
        obtain ⟨rfl, rfl⟩ := e
        exact ⟨rfl, inv'⟩
  | .exit m, code, s, s', ex, a, w, hk, e, inv => by
    cases code <;> simp only [okC] at hk <;> first | (cases hk; done) | skip
    obtain rfl := eq_of_beq hk
    simp only [runB, Option.some.injEq, Prod.mk.injEq] at e
    obtain ⟨rfl, rfl⟩ := e
    exact wp_exit ⟨rfl, inv⟩
  | .ret, code, s, s', ex, a, w, hk, e, inv => by
    cases code <;> simp only [okC] at hk <;> first | (cases hk; done) | skip
    simp only [runB, Option.some.injEq, Prod.mk.injEq] at e
    obtain ⟨rfl, rfl⟩ := e
    exact wp_ret ⟨rfl, inv⟩
  | .nest _ _ _ _ _ _ _, code, s, s', ex, a, w, hk, e, inv => by cases e
  | .loop _ _ _, code, s, s', ex, a, w, hk, e, inv => by cases e
  | .alt _ _ _ _ _, code, s, s', ex, a, w, hk, e, inv => by cases e
  | .mrange _ _ _ _ _ _ _ _ _ _ _ _ _ _, code, s, s', ex, a, w, hk, e, inv => by cases e
theorem run_ok (hm : P.follows .mixedOrders = true) (hs : SoundC P call) (hl : SoundL P loopF) (hlv : Lv n S0) : ∀ (ac : AC) (code : Code) (s s' : St) (ex : EX) (a : Act) (w : World), okC P N ac code = true → run call loopF ac s = some (ex, s') → Inv N c0 S0 w0 n s a w →
    code.wp P (Post N c0 S0 w0 n ex s') a w
  | .skip, code, s, s', ex, a, w, hk, e, inv => by
    cases code <;> simp only [okC] at hk <;> first | (cases hk; done) | skip
    simp only [run, Option.some.injEq, Prod.mk.injEq] at e
    obtain ⟨rfl, rfl⟩ := e
    exact wp_skip ⟨rfl, inv⟩
  | .reg ord as lv ob, code, s, s', ex, a, w, hk, e, inv => by
    cases code <;> simp only [okC] at hk <;> first | (cases hk; done) | skip
    rename_i id os draw
    simp only [run] at e
    split at e
    · rename_i s1 h1
      cases draw with
      | true =>
        simp only [if_true, Bool.or_eq_true] at hk
        rcases hk with hk | hk
        · refine draw_ok hs hlv hm (okDraw_plan hk) h1 inv fun a' w' inv' => ?_
          obtain ⟨rfl, h⟩ := keep_ok hlv inv' e
          exact ⟨rfl, h⟩
        · obtain ⟨os', iA, dA, z, L, pl⟩ := okLate_spec hk
          refine late_ok hs hlv hm L pl h1 inv fun a' w' inv' => ?_
          obtain ⟨rfl, h⟩ := keep_ok hlv inv' e
          exact ⟨rfl, h⟩
      | false =>
        simp only [Bool.false_eq_true, if_false] at hk
        refine wp_region_list (list_ok hs hlv hk h1 inv fun a' w' inv' => ?_)
        obtain ⟨rfl, h⟩ := keep_ok hlv inv' e
        exact ⟨rfl, h⟩
    · cases e
  | .nest pre ld mids cl post lv ob, code, s, s', ex, a, w, hk, e, inv => by
    cases code <;> simp only [okC] at hk <;> first | (cases hk; done) | skip
    rename_i id os draw
    simp only [Bool.and_eq_true, Bool.not_eq_true'] at hk
    obtain ⟨rfl, hk⟩ := hk
    simp only [run] at e
    split at e
    · rename_i s1 h1
      split at e
      · rename_i hpk
        split at e
        · rename_i s2 h2
          split at e
          · rename_i s3 h3
            split at e
            · rename_i s4 h4
              refine wp_region_list (nest_region hs hlv hk h1 hpk h2 h3 h4 inv fun a' w' inv' => ?_)
              obtain ⟨rfl, h⟩ := keep_ok hlv inv' e
              exact ⟨rfl, h⟩
            · cases e
          · cases e
        · cases e
      · cases e
    · cases e
  | .seq x y, code, s, s', ex, a, w, hk, e, inv => by
    cases code <;> simp only [okC] at hk <;> first | (cases hk; done) | skip
    rename_i cx cy
    simp only [Bool.and_eq_true] at hk
    simp only [run] at e
    cases h1 : run call loopF x s with
    | none => rw [h1] at e; cases e
    | some p =>
      obtain ⟨ex1, s1⟩ := p
      have hx := run_ok hm hs hl hlv x cx s s1 ex1 a w hk.1 h1 inv
      refine wp_seq (wp_mono hx fun e' a' w' hq => ?_)
      obtain ⟨rfl, inv'⟩ := hq
      cases ex1 with
      | normal =>
        rw [h1] at e
        exact run_ok hm hs hl hlv y cy s1 s' ex a' w' hk.2 e inv'
      | exit m =>
        rw [h1] at e
        simp only [Option.some.injEq, Prod.mk.injEq] at e
        obtain ⟨rfl, rfl⟩ := e
        exact ⟨rfl, inv'⟩
      | ret =>
        rw [h1] at e
        simp only [Option.some.injEq, Prod.mk.injEq] at e
        obtain ⟨rfl, rfl⟩ := e
        exact ⟨rfl, inv'⟩
  | .cond c x y, code, s, s', ex, a, w, hk, e, inv => by
    cases code <;> simp only [okC] at hk <;> first | (cases hk; done) | skip
    rename_i cc cx cy
    simp only [Bool.and_eq_true] at hk
    simp only [run] at e
    split at e
    · rename_i t ht
      have hv : a.eval cc = .bool t := by
        obtain ⟨c, fp, sim, _⟩ := inv
        have := opd_RVal sim hk.1.1
        rw [ht] at this
        exact sc_eq this
      refine wp_cond hv ?_
      cases t with
      | true =>
        simp only [if_true] at e
        simp only [if_true]
        exact run_ok hm hs hl hlv x cx s s' ex a w hk.1.2 e inv
      | false =>
        simp only [Bool.false_eq_true, if_false] at e
        simp only [Bool.false_eq_true, if_false]
        exact run_ok hm hs hl hlv y cy s s' ex a w hk.2 e inv
    · cases e
  | .block m x, code, s, s', ex, a, w, hk, e, inv => by
    cases code <;> simp only [okC] at hk <;> first | (cases hk; done) | skip
    rename_i id cx
    simp only [Bool.and_eq_true] at hk
    obtain rfl := eq_of_beq hk.1
    simp only [run] at e
    cases h1 : run call loopF x s with
    | none => rw [h1] at e; cases e
    | some p =>
      obtain ⟨ex1, s1⟩ := p
      have hx := run_ok hm hs hl hlv x cx s s1 ex1 a w hk.2 h1 inv
      refine wp_block (wp_mono hx fun e' a' w' hq => ?_)
      obtain ⟨rfl, inv'⟩ := hq
      rw [h1] at e
      cases ex1 with
      | normal =>
        simp only [Option.some.injEq, Prod.mk.injEq] at e
        obtain ⟨rfl, rfl⟩ := e
        exact ⟨rfl, inv'⟩
      | exit q =>
        simp only at e
        simp only [exOf, Exit.inBlock]
        split at e
        · rename_i hq
          simp only [Option.some.injEq, Prod.mk.injEq] at e
          obtain ⟨rfl, rfl⟩ := e
          rw [if_pos hq]
          exact ⟨rfl, inv'⟩
        · rename_i hq
          simp only [Option.some.injEq, Prod.mk.injEq] at e
          obtain ⟨rfl, rfl⟩ := e
          rw [if_neg hq]
          exact ⟨rfl, inv'⟩
      | ret =>
        simp only [Option.some.injEq, Prod.mk.injEq] at e
        obtain ⟨rfl, rfl⟩ := e
        exact ⟨rfl, inv'⟩
  | .loop lv ob x, code, s, s', ex, a, w, hk, e, inv => by
    cases code <;> simp only [okC] at hk <;> first | (cases hk; done) | skip
    rename_i cx
    simp only [run] at e
    exact (hl lv ob x s ex s' e N c0 S0 w0 n cx a w hk hlv inv).wp
  | .exit m, code, s, s', ex, a, w, hk, e, inv => by
    cases code <;> simp only [okC] at hk <;> first | (cases hk; done) | skip
    obtain rfl := eq_of_beq hk
    simp only [run, Option.some.injEq, Prod.mk.injEq] at e
    obtain ⟨rfl, rfl⟩ := e
    exact wp_exit ⟨rfl, inv⟩
  | .ret, code, s, s', ex, a, w, hk, e, inv => by
    cases code <;> simp only [okC] at hk <;> first | (cases hk; done) | skip
    simp only [run, Option.some.injEq, Prod.mk.injEq] at e
    obtain ⟨rfl, rfl⟩ := e
    exact wp_ret ⟨rfl, inv⟩
  | .mrange pre mx it dn dc de en lvE obE bd lvA obA lvX obX, code, s, s', ex, a, w, hk, e, inv => by
    unfold okC at hk
    split at hk
    all_goals try (rename_i heq; cases heq; done)
    all_goals try (cases hk; done)
    rename_i heq
    cases heq
    simp only [Bool.and_eq_true, Bool.not_eq_true'] at hk
    obtain ⟨⟨⟨⟨⟨rfl, rfl⟩, rfl⟩, hn⟩, hmr⟩, hkb⟩ := hk
    obtain rfl := eq_of_beq hn
    simp only [run] at e
    exact mrange_ok hs hlv hmr (fun s s' ex c0 S0 w0 a w hlv' e inv => runB_ok hm hlv' bd _ s s' ex a w hkb e inv) e inv
  | .alt i j m x y, code, s, s', ex, a, w, hk, e, inv => by
    cases code <;> simp only [okC] at hk <;> first | (cases hk; done) | skip
    rename_i id os draw
    simp only [Bool.and_eq_true] at hk
    obtain ⟨rfl, hk⟩ := hk
    refine tree_ok hs hlv hm hk e inv fun {lv ob s1 a' w'} hf inv' => ?_
    obtain ⟨rfl, h⟩ := keep_ok hlv inv' hf
    exact ⟨rfl, h⟩
end
end
end Go.Am
end
section
/- What the machine computes, the program does. -/
set_option linter.unusedSimpArgs false
set_option linter.unusedVariables false
namespace Go.Am
open Go.RowKit
def okRes (P : Program) : List RV → List ResultVar → Bool
  | [], [] => true
  | .tmp t :: r, .tmp t' :: r' => t == t' && okRes P r r'
  | .cell t k :: r, .cell t' ty :: r' => t == t' && kindOf P ty == some k && okRes P r r'
  | _, _ => false
def okF (P : Program) (f : Nat) (af : AF) : Bool :=
  match P.funcs[f]? with
  | some fn => match fn.body with
    | some c => okC P fn.ntmps af.body c && okRes P af.res fn.results.toList && fn.name != "runtime.NumGoroutine"
    | none => false
  | none => false
structure ProgOK (P : Program) (G : Prog) : Prop where
  mixed : P.follows .mixedOrders = true
  code : ∀ f af, G.prim f = none → G.code f = some af → okF P f af = true
  prim : ∀ f p, G.prim f = some p → ∀ args o r o', p args o = some (r, o') → Good P f args o r o'
section
variable {P : Program} {G : Prog}
def resOp (P : Program) (tmps : Array Value) : ResultVar → Sem Value
  | .tmp t => pure (tmps.getD t undef)
  | .cell a t => do loadVar t (← asAddr (tmps.getD a undef))
theorem resVs_ok {N : Nat} {c : Ctx} {fp : Id → List Nat} {s : St} {a : Act} {w : World} (sim : Sim N c fp s a w) : ∀ {res : List RV} {rs : List ResultVar} {vs : List PV}, okRes P res rs = true → resVs s res = some vs →
    ∃ vals, (rs.mapM (resOp P a.tmps)).run P w = .ok vals w ∧ RV1s c s.get (hp w) vs vals ∧ ∀ x ∈ vs, ∀ ps, x ≠ .tup ps
  | [], rs, vs, hk, e => by
    cases rs with
    | cons _ _ => simp [okRes] at hk
    | nil =>
      simp only [resVs, Option.some.injEq] at e
      subst e
      exact ⟨[], by simp, rfl, fun x hx => by cases hx⟩
  | x :: res, rs, vs, hk, e => by
    cases rs with
    | nil => cases x <;> simp [okRes] at hk
    | cons y rs =>
      simp only [resVs] at e
      split at e
      · rename_i v vs' h1 h2
        simp only [Option.some.injEq] at e
        subst e
        have key : okRes P res rs = true ∧ ∃ u, (resOp P a.tmps y).run P w = .ok u w ∧ RV1 c s.get (hp w) v u ∧ ∀ ps, v ≠ .tup ps := by
          cases x with
          | tmp t =>
            cases y with
            | cell _ _ => simp [okRes] at hk
            | tmp t' =>
              simp only [okRes, Bool.and_eq_true] at hk
              obtain rfl := eq_of_beq hk.1
              refine ⟨hk.2, a.tmps.getD t undef, by simp [resOp], ?_⟩
              have hr := sim.rg t
              simp only [resV] at h1
              split at h1
              · cases h1
              · rename_i hnt
                simp only [Option.some.injEq] at h1
                subst h1
                refine ⟨?_, hnt⟩
                cases hg : getR s.r t with
                | tup ps => exact absurd hg (hnt ps)
                | _ => rw [hg] at hr; exact hr
          | cell t k =>
            cases y with
            | tmp _ => simp [okRes] at hk
            | cell t' ty =>
              simp only [okRes, Bool.and_eq_true] at hk
              obtain rfl := eq_of_beq hk.1.1
              have hkind := eq_of_beq hk.1.2
              refine ⟨hk.2, ?_⟩
              have hr := sim.rg t
              simp only [resV] at h1
              split at h1
              · rename_i id m i j hg
                rw [hg] at hr
                split at h1
                · rename_i ob hob
                  split at h1
                  · rename_i hbox
                    split at h1
                    · rename_i cs hcs
                      obtain ⟨o, us, f, g1, g2, g3, g4, g5⟩ := elem_at sim.st hob hcs
                      have hf := g5 hbox
                      subst hf
                      have hp := ptr_eq g4 hr
                      obtain ⟨u, hu, hru⟩ := load_cells (P := P) hkind g1 g2 g3 h1
                      have hnt : ∀ ps, v ≠ .tup ps := by
                        rintro ps rfl
                        cases k with
                        | none =>
                          simp only [takeC] at h1
                          have := List.all_eq_true.1 g1 _ (List.mem_of_getElem? h1)
                          simp [cellP] at this
                        | some k =>
                          simp only [takeC] at h1
                          split at h1
                          · simp at h1
                          · cases h1
                      refine ⟨u, by simp only [resOp, hp]; simp [asAddr, hu], ?_, hnt⟩
                      cases v with
                      | tup ps => exact absurd rfl (hnt ps)
                      | _ => exact hru
                    · cases h1
                  · cases h1
                · cases h1
              · cases h1
        obtain ⟨hk2, u, hu, hr, hnt⟩ := key
        obtain ⟨vals, h3, h4, h5⟩ := resVs_ok sim hk2 h2
        refine ⟨u :: vals, by simp [List.mapM_cons, hu, h3], ⟨u, vals, rfl, hr, h4⟩, fun x hx => ?_⟩
        rcases List.mem_cons.1 hx with rfl | hx
        · exact hnt
        · exact h5 x hx
      · cases e
theorem run_results {fn : Func} {a : Act} {w : World} {vals : List Value} (h : (fn.results.toList.mapM (resOp P a.tmps)).run P w = .ok vals w) : (results fn a.tmps).run P w = .ok (single' vals) w := by
  have h1 : results fn a.tmps = (do let vs ← fn.results.mapM (resOp P a.tmps); pure (if h : vs.size = 1 then vs[0] else .tuple vs) : Sem Value) := by
    unfold results
    congr 1
  rw [h1, Array.mapM_eq_mapM_toList]
  simp only [Sem.run_bind, Sem.run_map, h, Result.andThen_ok, Sem.run_pure]
  cases vals with
  | nil => simp [single', h]
  | cons v l =>
    cases l with
    | nil => simp [single', h]
    | cons u l => simp [single', h]
theorem restrict_ok {c : Ctx} {S : Sto} {w : World} {fp : Id → List Nat} {m : Nat} (ok : StOK c S (hp w) fp) : StOK c (hideS S m) (hp w) fp := by
  refine ok.less (fun id ob h => (hideS_some h).2) (fun id ob h => ?_)
  obtain ⟨h1, h2⟩ := hideS_some h
  refine RO.vis (c := c) (S := S) (fun _ _ h => h) (fun i hi => ⟨?_, rfl⟩) (fun _ _ => rfl) (ok.ob id ob h2)
  unfold hideS
  rw [if_pos (by omega)]
theorem getR_pars : ∀ (xs : List PV) (q t : Nat), getR (pars q xs) t = if q ≤ t then (xs[t - q]?).getD .undef else .undef
  | [], q, t => by simp [pars, getR]
  | x :: xs, q, t => by
    simp only [pars, getR]
    by_cases h : q = t
    · subst h; simp
    · simp only [h, if_false]
      rw [getR_pars xs (q + 1) t]
      by_cases h2 : q ≤ t
      · have h3 : q + 1 ≤ t := by omega
        have h4 : t - q = (t - (q + 1)) + 1 := by omega
        rw [if_pos h3, if_pos h2, h4, List.getElem?_cons_succ]
      · rw [if_neg h2, if_neg (by omega)]
theorem RVals_get {c : Ctx} {S : Sto} {w : World} : ∀ {xs : List PV} {vs : List Value}, RVals c S (hp w) xs vs → ∀ t : Nat, RVal c S (hp w) ((xs[t]?).getD .undef) ((vs[t]?).getD undef)
  | [], _, r, t => by simp [RVal, RV1]
  | x :: xs, _, ⟨v, ws, rfl, r1, r2⟩, 0 => by simpa using r1
  | x :: xs, _, ⟨v, ws, rfl, r1, r2⟩, t + 1 => by simpa using RVals_get r2 t
theorem entry {c : Ctx} {o : Stack} {w : World} {fp : Id → List Nat} {args : List PV} {vals : List Value} {N : Nat} (ok : StOK c (gt o) (hp w) fp) (r : RVals c (gt o) (hp w) args vals) :
    Inv N c (gt o) w o.length ⟨pars 0 args, [], o⟩ { tmps := vals.toArray ++ Array.replicate (N - vals.toArray.size) undef, defers := [] } w := by
  have hget : (⟨pars 0 args, [], o⟩ : St).get = gt o := rfl
  refine ⟨c, fp, ⟨fun t => ?_, by rw [hget]; exact ok, rfl, by simp; omega⟩, by rw [hget]; exact Adv.refl _ _, Grew.refl _, fun id ob h => .inr ⟨ob, by rw [hget] at h; exact h⟩, rfl⟩
  rw [hget]
  simp only [getR_pars, Nat.zero_le, if_true, Nat.sub_zero]
  have hr := RVals_get r t
  have hv : (vals.toArray ++ Array.replicate (N - vals.toArray.size) undef).getD t undef = (vals[t]?).getD undef := by
    rw [Array.getD_eq_getD_getElem?]
    by_cases h : t < vals.length
    · rw [Array.getElem?_append_left (by simpa using h)]
      simp
    · have h1 : vals[t]? = none := List.getElem?_eq_none (by omega)
      rw [h1, Array.getElem?_append_right (by simpa using h)]
      rw [Array.getElem?_replicate]
      split <;> rfl
  rw [hv]; exact hr
theorem body_ok (pg : ProgOK P G) {call : CallF} {loopF : List Nat → List Nat → AC → St → Option (EX × St)} (hs : SoundC P call) (hl : SoundL P loopF) : SoundC P (body1 G call loopF) := by
  intro f args o r o' e
  unfold body1 at e
  split at e
  · rename_i p hp
    exact pg.prim f p hp args o r o' e
  · rename_i hp
    split at e
    · cases e
    · rename_i af haf
      have hk := pg.code f af hp haf
      unfold okF at hk
      split at hk
      · rename_i fn hfn
        split at hk
        · rename_i code hcode
          simp only [Bool.and_eq_true, bne_iff_ne] at hk
          obtain ⟨⟨hk1, hk2⟩, hk3⟩ := hk
          refine ⟨⟨fn, hfn, by rw [hcode]; rfl, hk3⟩, fun c fp w vals ok hr => ?_⟩
          refine calls_of_wp hfn hcode ?_
          have hinv := entry (N := fn.ntmps) ok hr
          have fin : ∀ {s' : St} {a' : Act} {w' : World}, Inv fn.ntmps c (gt o) w o.length s' a' w' → finish af.res s' = some (r, o') →
              a'.defers = [] ∧ ∃ v, (results fn a'.tmps).run P w' = .ok v w' ∧ (Shape o o' ∧ Did c (gt o) w (gt o') r (.returned v) w') := by
            intro s' a' w' inv hf
            obtain ⟨c', fp', sim, ha, hg, hdom, hn⟩ := inv
            unfold finish at hf
            split at hf
            · cases hf
            · rename_i vs hvs
              split at hf
              · cases hf
              · rename_i y ids hex
                split at hf
                · rename_i hnd
                  simp only [Option.some.injEq, Prod.mk.injEq] at hf
                  obtain ⟨rfl, rfl⟩ := hf
                  obtain ⟨vals', h1, h2, h3⟩ := resVs_ok sim hk2 hvs
                  have hlv' : ∀ i ob, s'.get i = some ob → i.1 ≤ s'.o.length := fun i ob h => get_lvl h
                  obtain ⟨f', h4, h5⟩ := finish_ok sim.st hlv' h2 h3 hex hnd
                  have hgt := gt_get s'
                  rw [← hgt] at h4 h5
                  refine ⟨sim.df, single' vals', run_results h1, ⟨hn, fun id ob h => ?_⟩, single' vals', c', fp', f', rfl, hg, by rw [hgt]; exact restrict_ok sim.st, ⟨ha.F, ha.X, fun id ob h => ?_⟩, h5, h4⟩
                  · rw [hgt] at h
                    obtain ⟨h6, h7⟩ := hideS_some h
                    rcases hdom id ob h7 with h8 | h8
                    · omega
                    · exact h8
                  · obtain ⟨ob', h6, h7⟩ := ha.st id ob h
                    refine ⟨ob', ?_, h7⟩
                    have := gt_lv o id ob h
                    rw [hgt]
                    simp only [hideS]
                    rw [if_pos (by omega)]
                    exact h6
                · cases hf
          cases hrun : run call loopF af.body ⟨pars 0 args, [], o⟩ with
          | none => rw [hrun] at e; cases e
          | some p =>
            obtain ⟨ex, s'⟩ := p
            rw [hrun] at e
            have hwp := run_ok pg.mixed hs hl (gt_lv o) af.body code _ s' ex _ w hk1 hrun hinv
            refine wp_mono hwp fun e' a' w' hq => ?_
            obtain ⟨rfl, inv'⟩ := hq
            cases ex with
            | normal => exact fin inv' e
            | ret => exact fin inv' e
            | exit m => cases e
        · cases hk
      · cases hk
theorem loop_ok (hm : P.follows .mixedOrders = true) {call : CallF} {loopF : List Nat → List Nat → AC → St → Option (EX × St)} (hs : SoundC P call) (hl : SoundL P loopF) : SoundL P (loop1 call loopF) := by
  intro lv ob ac s ex s' e N c0 S0 w0 n code a w hk hlv inv
  unfold loop1 at e
  split at e
  · rename_i ex0 s0 h0
    obtain ⟨rfl, inv0⟩ := keep_ok hlv inv h0
    cases hrun : run call loopF ac s0 with
    | none => rw [hrun] at e; cases e
    | some p =>
      obtain ⟨ex1, s1⟩ := p
      rw [hrun] at e
      refine LW.round (wp_mono (run_ok hm hs hl hlv ac code s0 s1 ex1 a w hk hrun inv0) fun e' a' w' hq => ?_)
      obtain ⟨rfl, inv1⟩ := hq
      cases ex1 with
      | normal => exact hl lv ob ac s1 ex s' e N c0 S0 w0 n code a' w' hk hlv inv1
      | exit m =>
        simp only [Option.some.injEq, Prod.mk.injEq] at e
        obtain ⟨rfl, rfl⟩ := e
        exact ⟨rfl, inv1⟩
      | ret =>
        simp only [Option.some.injEq, Prod.mk.injEq] at e
        obtain ⟨rfl, rfl⟩ := e
        exact ⟨rfl, inv1⟩
  · cases e
theorem sound_n (pg : ProgOK P G) : ∀ n, SoundC P (callN G n) ∧ SoundL P (loopN G n)
  | 0 => ⟨fun _ _ _ _ _ e => by simp [callN] at e, fun _ _ _ _ _ _ e => by simp [loopN] at e⟩
  | n + 1 => by
    obtain ⟨h1, h2⟩ := sound_n pg n
    refine ⟨fun f args o r o' e => ?_, fun lv ob ac s ex s' e => ?_⟩
    · simp only [callN] at e
      exact body_ok pg h1 h2 f args o r o' e
    · simp only [loopN] at e
      exact loop_ok pg.mixed h1 h2 lv ob ac s ex s' e
/-- SOUNDNESS. -/
theorem sound (pg : ProgOK P G) {f : Nat} {args : List PV} {o o' : Stack} {r : PV} (e : callI G f args o = some (r, o')) : Good P f args o r o' := by
  obtain ⟨n, hn⟩ := (callI_iff G).1 e
  exact (sound_n pg n).1 f args o r o' hn
end
end Go.Am
end
