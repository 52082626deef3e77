/- An abstract machine; its steps are those of the model. -/
import Derived.Test.YtifjnagbhfnmgaaDoorAnC
import GoSem.ClaimChange
import Derived.ProofKit
import Derived.Test.YtifjnagbhfnmgaaDoorAnB
import Derived.Lib.ItoaNum
section
namespace Go.Am
section
variable (n d : Nat) (g : Id → Option OB) (ps : List PV)
@[simp] theorem core_move : core n d g .move ps = core1 n d g .move ps := by unfold core; rfl
@[simp] theorem core_pick : core n d g .pick ps = core1 n d g .pick ps := by unfold core; rfl
@[simp] theorem core_alloc (z) : core n d g (.alloc z) ps = core1 n d g (.alloc z) ps := by unfold core; rfl
@[simp] theorem core_box : core n d g .box ps = core1 n d g .box ps := by unfold core; rfl
@[simp] theorem core_build (z o) : core n d g (.build z o) ps = core1 n d g (.build z o) ps := by unfold core; rfl
@[simp] theorem core_eslice (k) : core n d g (.eslice k) ps = core1 n d g (.eslice k) ps := by unfold core; rfl
@[simp] theorem core_fsl (k) : core n d g (.fsl k) ps = core1 n d g (.fsl k) ps := by unfold core; rfl
@[simp] theorem core_sstr (k k2) : core n d g (.sstr k k2) ps = core1 n d g (.sstr k k2) ps := by unfold core; rfl
@[simp] theorem core_bslice (k m) : core n d g (.bslice k m) ps = core1 n d g (.bslice k m) ps := by unfold core; rfl
@[simp] theorem core_load (k m) : core n d g (.load k m) ps = core1 n d g (.load k m) ps := by unfold core; rfl
@[simp] theorem core_store (k m) : core n d g (.store k m) ps = core1 n d g (.store k m) ps := by unfold core; rfl
@[simp] theorem core_bin (k) : core n d g (.bin k) ps = core1 n d g (.bin k) ps := by unfold core; rfl
@[simp] theorem core_beq : core n d g .beq ps = core1 n d g .beq ps := by unfold core; rfl
@[simp] theorem core_bne : core n d g .bne ps = core1 n d g .bne ps := by unfold core; rfl
@[simp] theorem core_not : core n d g .not ps = core1 n d g .not ps := by unfold core; rfl
@[simp] theorem core_neg : core n d g .neg ps = core1 n d g .neg ps := by unfold core; rfl
@[simp] theorem core_faddr (k) : core n d g (.faddr k) ps = core1 n d g (.faddr k) ps := by unfold core; rfl
@[simp] theorem core_iaddr (k) : core n d g (.iaddr k) ps = core1 n d g (.iaddr k) ps := by unfold core; rfl
@[simp] theorem core_iarr (k m) : core n d g (.iarr k m) ps = core1 n d g (.iarr k m) ps := by unfold core; rfl
@[simp] theorem core_idx (a b c) : core n d g (.idx a b c) ps = core1 n d g (.idx a b c) ps := by unfold core; rfl
@[simp] theorem core_istr : core n d g .istr ps = core1 n d g .istr ps := by unfold core; rfl
@[simp] theorem core_bstr : core n d g .bstr ps = core1 n d g .bstr ps := by unfold core; rfl
@[simp] theorem core_fld (a b) : core n d g (.fld a b) ps = core1 n d g (.fld a b) ps := by unfold core; rfl
@[simp] theorem core_ext (a) : core n d g (.ext a) ps = core1 n d g (.ext a) ps := by unfold core; rfl
@[simp] theorem core_len : core n d g .len ps = core1 n d g .len ps := by unfold core; rfl
@[simp] theorem core_lens : core n d g .lens ps = core1 n d g .lens ps := by unfold core; rfl
@[simp] theorem core_append (a b) : core n d g (.append a b) ps = core1 n d g (.append a b) ps := by unfold core; rfl
@[simp] theorem core_mkslice (a b) : core n d g (.mkslice a b) ps = core1 n d g (.mkslice a b) ps := by unfold core; rfl
@[simp] theorem core_mkfunc (a) : core n d g (.mkfunc a) ps = core1 n d g (.mkfunc a) ps := by unfold core; rfl
@[simp] theorem core_conv (a) : core n d g (.conv a) ps = core1 n d g (.conv a) ps := by unfold core; rfl
@[simp] theorem core_min2 : core n d g .min2 ps = core1 n d g .min2 ps := by unfold core; rfl
@[simp] theorem core_max2 : core n d g .max2 ps = core1 n d g .max2 ps := by unfold core; rfl
@[simp] theorem core_isnil : core n d g .isnil ps = core1 n d g .isnil ps := by unfold core; rfl
@[simp] theorem core_take : core n d g .take ps = core1 n d g .take ps := by unfold core; rfl
@[simp] theorem core_slice (a b c) : core n d g (.slice a b c) ps = core1 n d g (.slice a b c) ps := by unfold core; rfl
@[simp] theorem core_copy : core n d g .copy ps = core1 n d g .copy ps := by unfold core; rfl
@[simp] theorem core_clear (a b) : core n d g (.clear a b) ps = core1 n d g (.clear a b) ps := by unfold core; rfl
@[simp] theorem core_mkmap (a) : core n d g (.mkmap a) ps = core1 n d g (.mkmap a) ps := by unfold core; rfl
@[simp] theorem core_lookup (a b c) : core n d g (.lookup a b c) ps = core1 n d g (.lookup a b c) ps := by unfold core; rfl
@[simp] theorem core_mapset (a) : core n d g (.mapset a) ps = core1 n d g (.mapset a) ps := by unfold core; rfl
@[simp] theorem core_meq (a) : core n d g (.meq a) ps = core1 n d g (.meq a) ps := by unfold core; rfl
@[simp] theorem core_nck : core n d g .nck ps = core1 n d g .nck ps := by unfold core; rfl
open Classical in
@[simp] theorem core_chk (k : K) (x : PV) (xs : List PV) : core n d g (.chk k) (x :: xs) = if core1 n d g k xs = some (x, []) then some (.undef, []) else none := by unfold core; rfl
end
/-! #### one step at a time: what comes later stays folded until the state is known -/
section
variable {call : CallF} {lp : List Nat → List Nat → AC → St → Option (EX × St)}
noncomputable def seqK (call : CallF) (lp : List Nat → List Nat → AC → St → Option (EX × St)) (b : AC) : Option (EX × St) → Option (EX × St)
  | some (.normal, s') => run call lp b s'
  | r => r
noncomputable def condK (call : CallF) (lp : List Nat → List Nat → AC → St → Option (EX × St)) (a b : AC) (s : St) : PV → Option (EX × St)
  | .sc (.bool t) => if t = true then run call lp a s else run call lp b s
  | _ => none
def blockK (n : Nat) : Option (EX × St) → Option (EX × St)
  | some (.exit m, s') => if m = n then some (.normal, s') else some (.exit m, s')
  | r => r
noncomputable def stepsK (call : CallF) (r : List AI) : Option St → Option St
  | some s' => steps call s' r
  | none => none
def regK (lv ob : List Nat) : Option St → Option (EX × St)
  | some s' => fin (s'.keep lv ob)
  | none => none
def putK (s : St) (d : Option Nat) : Option (PV × List (Id × OB)) → Option St
  | some (v, ws) => some ((s.sets ws).put d v)
  | none => none
@[simp] theorem run_skip' (s : St) : run call lp .skip s = some (.normal, s) := rfl
@[simp] theorem run_reg' (o as lv ob) (s : St) : run call lp (.reg o as lv ob) s = regK lv ob (steps call s as) := by simp only [run]; cases steps call s as <;> rfl
noncomputable def nestR (call : CallF) (lv ob : List Nat) (post : List AI) : Option St → Option (EX × St)
  | some s3 => regK lv ob (steps call s3 post)
  | none => none
noncomputable def nestQ (call : CallF) (lv ob : List Nat) (ld cl : AI) (post : List AI) : Option St → Option (EX × St)
  | some s2 => nestR call lv ob post (nestStep call s2 ld cl)
  | none => none
noncomputable def nestP (call : CallF) (lv ob : List Nat) (ld : AI) (mids : List AI) (cl : AI) (post : List AI) : Option St → Option (EX × St)
  | some s1 => if peekOK s1 ld = true then nestQ call lv ob ld cl post (steps call (s1.put ld.d .undef) mids) else none
  | none => none
@[simp] theorem nestR_s (lv ob post) (s : St) : nestR call lv ob post (some s) = regK lv ob (steps call s post) := rfl
@[simp] theorem nestQ_s (lv ob ld cl post) (s : St) : nestQ call lv ob ld cl post (some s) = nestR call lv ob post (nestStep call s ld cl) := rfl
@[simp] theorem nestP_s (lv ob ld mids cl post) (s : St) : nestP call lv ob ld mids cl post (some s) = if peekOK s ld = true then nestQ call lv ob ld cl post (steps call (s.put ld.d .undef) mids) else none := rfl
@[simp] theorem run_nest' (pre ld mids cl post lv ob) (s : St) : run call lp (.nest pre ld mids cl post lv ob) s = nestP call lv ob ld mids cl post (steps call s pre) := by
  simp only [run]
  cases steps call s pre with
  | none => rfl
  | some s1 =>
    simp only [nestP]
    split
    · cases steps call (s1.put ld.d .undef) mids with
      | none => rfl
      | some s2 =>
        simp only [nestQ]
        cases nestStep call s2 ld cl with
        | none => rfl
        | some s3 =>
          simp only [nestR]
          cases steps call s3 post <;> rfl
    · rfl
@[simp] theorem run_seq' (a b) (s : St) : run call lp (.seq a b) s = seqK call lp b (run call lp a s) := by
  simp only [run]
  cases run call lp a s with
  | none => rfl
  | some p => obtain ⟨e, s'⟩ := p; cases e <;> rfl
@[simp] theorem run_cond' (c a b) (s : St) : run call lp (.cond c a b) s = condK call lp a b s (s.ev c) := by
  simp only [run]
  cases s.ev c with
  | sc v => cases v <;> rfl
  | _ => rfl
@[simp] theorem run_block' (n a) (s : St) : run call lp (.block n a) s = blockK n (run call lp a s) := by
  simp only [run]
  cases run call lp a s with
  | none => rfl
  | some p => obtain ⟨e, s'⟩ := p; cases e <;> rfl
noncomputable def altK : Option (EX × St) → Option (EX × St) → Option (EX × St)
  | some x, some y => @ite _ (x = y) (Classical.propDecidable _) (some x) none
  | _, _ => none
@[simp] theorem run_alt' (i j m a b) (s : St) : run call lp (.alt i j m a b) s = altK (run call lp a s) (run call lp b s) := by
  simp only [run]
  rcases run call lp a s with _ | x
  · rfl
  · rcases run call lp b s with _ | y <;> rfl
@[simp] theorem altK_same (x) : altK (some x) (some x) = some x := by simp [altK]
@[simp] theorem altK_i {p : Prop} [Decidable p] (x y x' y') : altK (if p then x else y) (if p then x' else y') = if p then altK x x' else altK y y' := by split <;> rfl
@[simp] theorem run_mrange' (pre mx it dn dc de en lvE obE bd lvA obA lvX obX) (s : St) : run call lp (.mrange pre mx it dn dc de en lvE obE bd lvA obA lvX obX) s = mstart bd mx it dn dc de en lvE obE lvA obA lvX obX (steps call s pre) := rfl
@[simp] theorem run_loop' (lv ob a) (s : St) : run call lp (.loop lv ob a) s = lp lv ob a s := rfl
@[simp] theorem run_exit' (n) (s : St) : run call lp (.exit n) s = some (.exit n, s) := rfl
@[simp] theorem run_ret' (s : St) : run call lp .ret s = some (.ret, s) := rfl
@[simp] theorem seqK_n (b) (s : St) : seqK call lp b (some (.normal, s)) = run call lp b s := rfl
@[simp] theorem seqK_e (b n) (s : St) : seqK call lp b (some (.exit n, s)) = some (.exit n, s) := rfl
@[simp] theorem seqK_r (b) (s : St) : seqK call lp b (some (.ret, s)) = some (.ret, s) := rfl
@[simp] theorem seqK_o (b) : seqK call lp b none = none := rfl
@[simp] theorem condK_t (a b) (s : St) : condK call lp a b s (.sc (.bool true)) = run call lp a s := rfl
@[simp] theorem condK_f (a b) (s : St) : condK call lp a b s (.sc (.bool false)) = run call lp b s := rfl
@[simp] theorem blockK_n (n) (s : St) : blockK n (some (.normal, s)) = some (.normal, s) := rfl
@[simp] theorem blockK_e (n m) (s : St) : blockK n (some (.exit m, s)) = if m = n then some (.normal, s) else some (.exit m, s) := rfl
@[simp] theorem blockK_r (n) (s : St) : blockK n (some (.ret, s)) = some (.ret, s) := rfl
@[simp] theorem blockK_o (n) : blockK n none = none := rfl
@[simp] theorem steps_nil' (s : St) : steps call s [] = some s := rfl
theorem steps_cons' (a r) (s : St) : steps call s (a :: r) = stepsK call r (stepI call s a) := by simp only [steps]; cases stepI call s a <;> rfl
@[simp] theorem stepsK_s (r) (s : St) : stepsK call r (some s) = steps call s r := rfl
@[simp] theorem stepsK_o (r) : stepsK call r none = none := rfl
@[simp] theorem regK_s (lv ob) (s : St) : regK lv ob (some s) = fin (s.keep lv ob) := rfl
@[simp] theorem regK_o (lv ob) : regK lv ob none = none := rfl
@[simp] theorem steps_n (d k xs r) (s : St) : steps call s (⟨d, k, xs, none⟩ :: r) = stepsK call r (stepGo call s ⟨d, k, xs, none⟩) := by rw [steps_cons', stepI_eq]
@[simp] theorem go_call (s : St) (d b l xs g) : stepGo call s ⟨d, .call b l, xs, g⟩ = stepCall call s d b l (xs.map s.ev) := rfl
theorem go_op (s : St) (d k xs g) (h : isCall k = false) : stepGo call s ⟨d, k, xs, g⟩ = putK s d (core s.o.length (d.getD 999) s.get k (xs.map s.ev)) := by
  unfold stepGo
  split
  · rename_i b l hk; simp only at hk; rw [hk] at h; cases h
  · cases core s.o.length (d.getD 999) s.get k (xs.map s.ev) <;> rfl
@[simp] theorem putK_s (s : St) (d v ws) : putK s d (some (v, ws)) = (some ((s.sets ws).put d v)) := rfl
@[simp] theorem putK_o (s : St) (d) : putK s d none = none := rfl
end
@[simp] theorem go_move {call : CallF} (s : St) (d xs g) : stepGo call s ⟨d, .move, xs, g⟩ = putK s d (core1 s.o.length (d.getD 999) s.get .move (xs.map s.ev)) := by rw [go_op _ _ _ _ _ rfl, core_move]
@[simp] theorem go_pick {call : CallF} (s : St) (d xs g) : stepGo call s ⟨d, .pick, xs, g⟩ = putK s d (core1 s.o.length (d.getD 999) s.get .pick (xs.map s.ev)) := by rw [go_op _ _ _ _ _ rfl, core_pick]
@[simp] theorem go_alloc (z) {call : CallF} (s : St) (d xs g) : stepGo call s ⟨d, (.alloc z), xs, g⟩ = putK s d (core1 s.o.length (d.getD 999) s.get (.alloc z) (xs.map s.ev)) := by rw [go_op _ _ _ _ _ rfl, core_alloc]
@[simp] theorem go_box {call : CallF} (s : St) (d xs g) : stepGo call s ⟨d, .box, xs, g⟩ = putK s d (core1 s.o.length (d.getD 999) s.get .box (xs.map s.ev)) := by rw [go_op _ _ _ _ _ rfl, core_box]
@[simp] theorem go_build (z o) {call : CallF} (s : St) (d xs g) : stepGo call s ⟨d, (.build z o), xs, g⟩ = putK s d (core1 s.o.length (d.getD 999) s.get (.build z o) (xs.map s.ev)) := by rw [go_op _ _ _ _ _ rfl, core_build]
@[simp] theorem go_eslice (k) {call : CallF} (s : St) (d xs g) : stepGo call s ⟨d, (.eslice k), xs, g⟩ = putK s d (core1 s.o.length (d.getD 999) s.get (.eslice k) (xs.map s.ev)) := by rw [go_op _ _ _ _ _ rfl, core_eslice]
@[simp] theorem go_fsl (k) {call : CallF} (s : St) (d xs g) : stepGo call s ⟨d, (.fsl k), xs, g⟩ = putK s d (core1 s.o.length (d.getD 999) s.get (.fsl k) (xs.map s.ev)) := by rw [go_op _ _ _ _ _ rfl, core_fsl]
@[simp] theorem go_sstr (k k2) {call : CallF} (s : St) (d xs g) : stepGo call s ⟨d, (.sstr k k2), xs, g⟩ = putK s d (core1 s.o.length (d.getD 999) s.get (.sstr k k2) (xs.map s.ev)) := by rw [go_op _ _ _ _ _ rfl, core_sstr]
@[simp] theorem go_bslice (k m) {call : CallF} (s : St) (d xs g) : stepGo call s ⟨d, (.bslice k m), xs, g⟩ = putK s d (core1 s.o.length (d.getD 999) s.get (.bslice k m) (xs.map s.ev)) := by rw [go_op _ _ _ _ _ rfl, core_bslice]
@[simp] theorem go_load (k m) {call : CallF} (s : St) (d xs g) : stepGo call s ⟨d, (.load k m), xs, g⟩ = putK s d (core1 s.o.length (d.getD 999) s.get (.load k m) (xs.map s.ev)) := by rw [go_op _ _ _ _ _ rfl, core_load]
@[simp] theorem go_store (k m) {call : CallF} (s : St) (d xs g) : stepGo call s ⟨d, (.store k m), xs, g⟩ = putK s d (core1 s.o.length (d.getD 999) s.get (.store k m) (xs.map s.ev)) := by rw [go_op _ _ _ _ _ rfl, core_store]
@[simp] theorem go_bin (k) {call : CallF} (s : St) (d xs g) : stepGo call s ⟨d, (.bin k), xs, g⟩ = putK s d (core1 s.o.length (d.getD 999) s.get (.bin k) (xs.map s.ev)) := by rw [go_op _ _ _ _ _ rfl, core_bin]
@[simp] theorem go_beq {call : CallF} (s : St) (d xs g) : stepGo call s ⟨d, .beq, xs, g⟩ = putK s d (core1 s.o.length (d.getD 999) s.get .beq (xs.map s.ev)) := by rw [go_op _ _ _ _ _ rfl, core_beq]
@[simp] theorem go_bne {call : CallF} (s : St) (d xs g) : stepGo call s ⟨d, .bne, xs, g⟩ = putK s d (core1 s.o.length (d.getD 999) s.get .bne (xs.map s.ev)) := by rw [go_op _ _ _ _ _ rfl, core_bne]
@[simp] theorem go_not {call : CallF} (s : St) (d xs g) : stepGo call s ⟨d, .not, xs, g⟩ = putK s d (core1 s.o.length (d.getD 999) s.get .not (xs.map s.ev)) := by rw [go_op _ _ _ _ _ rfl, core_not]
@[simp] theorem go_neg {call : CallF} (s : St) (d xs g) : stepGo call s ⟨d, .neg, xs, g⟩ = putK s d (core1 s.o.length (d.getD 999) s.get .neg (xs.map s.ev)) := by rw [go_op _ _ _ _ _ rfl, core_neg]
@[simp] theorem go_faddr (k) {call : CallF} (s : St) (d xs g) : stepGo call s ⟨d, (.faddr k), xs, g⟩ = putK s d (core1 s.o.length (d.getD 999) s.get (.faddr k) (xs.map s.ev)) := by rw [go_op _ _ _ _ _ rfl, core_faddr]
@[simp] theorem go_iaddr (k) {call : CallF} (s : St) (d xs g) : stepGo call s ⟨d, (.iaddr k), xs, g⟩ = putK s d (core1 s.o.length (d.getD 999) s.get (.iaddr k) (xs.map s.ev)) := by rw [go_op _ _ _ _ _ rfl, core_iaddr]
@[simp] theorem go_iarr (k m) {call : CallF} (s : St) (d xs g) : stepGo call s ⟨d, (.iarr k m), xs, g⟩ = putK s d (core1 s.o.length (d.getD 999) s.get (.iarr k m) (xs.map s.ev)) := by rw [go_op _ _ _ _ _ rfl, core_iarr]
@[simp] theorem go_idx (a b c) {call : CallF} (s : St) (d xs g) : stepGo call s ⟨d, (.idx a b c), xs, g⟩ = putK s d (core1 s.o.length (d.getD 999) s.get (.idx a b c) (xs.map s.ev)) := by rw [go_op _ _ _ _ _ rfl, core_idx]
@[simp] theorem go_istr {call : CallF} (s : St) (d xs g) : stepGo call s ⟨d, .istr, xs, g⟩ = putK s d (core1 s.o.length (d.getD 999) s.get .istr (xs.map s.ev)) := by rw [go_op _ _ _ _ _ rfl, core_istr]
@[simp] theorem go_bstr {call : CallF} (s : St) (d xs g) : stepGo call s ⟨d, .bstr, xs, g⟩ = putK s d (core1 s.o.length (d.getD 999) s.get .bstr (xs.map s.ev)) := by rw [go_op _ _ _ _ _ rfl, core_bstr]
@[simp] theorem go_fld (a b) {call : CallF} (s : St) (d xs g) : stepGo call s ⟨d, (.fld a b), xs, g⟩ = putK s d (core1 s.o.length (d.getD 999) s.get (.fld a b) (xs.map s.ev)) := by rw [go_op _ _ _ _ _ rfl, core_fld]
@[simp] theorem go_ext (a) {call : CallF} (s : St) (d xs g) : stepGo call s ⟨d, (.ext a), xs, g⟩ = putK s d (core1 s.o.length (d.getD 999) s.get (.ext a) (xs.map s.ev)) := by rw [go_op _ _ _ _ _ rfl, core_ext]
@[simp] theorem go_len {call : CallF} (s : St) (d xs g) : stepGo call s ⟨d, .len, xs, g⟩ = putK s d (core1 s.o.length (d.getD 999) s.get .len (xs.map s.ev)) := by rw [go_op _ _ _ _ _ rfl, core_len]
@[simp] theorem go_lens {call : CallF} (s : St) (d xs g) : stepGo call s ⟨d, .lens, xs, g⟩ = putK s d (core1 s.o.length (d.getD 999) s.get .lens (xs.map s.ev)) := by rw [go_op _ _ _ _ _ rfl, core_lens]
@[simp] theorem go_append (a b) {call : CallF} (s : St) (d xs g) : stepGo call s ⟨d, (.append a b), xs, g⟩ = putK s d (core1 s.o.length (d.getD 999) s.get (.append a b) (xs.map s.ev)) := by rw [go_op _ _ _ _ _ rfl, core_append]
@[simp] theorem go_mkslice (a b) {call : CallF} (s : St) (d xs g) : stepGo call s ⟨d, (.mkslice a b), xs, g⟩ = putK s d (core1 s.o.length (d.getD 999) s.get (.mkslice a b) (xs.map s.ev)) := by rw [go_op _ _ _ _ _ rfl, core_mkslice]
@[simp] theorem go_mkfunc (a) {call : CallF} (s : St) (d xs g) : stepGo call s ⟨d, (.mkfunc a), xs, g⟩ = putK s d (core1 s.o.length (d.getD 999) s.get (.mkfunc a) (xs.map s.ev)) := by rw [go_op _ _ _ _ _ rfl, core_mkfunc]
@[simp] theorem go_conv (a) {call : CallF} (s : St) (d xs g) : stepGo call s ⟨d, (.conv a), xs, g⟩ = putK s d (core1 s.o.length (d.getD 999) s.get (.conv a) (xs.map s.ev)) := by rw [go_op _ _ _ _ _ rfl, core_conv]
@[simp] theorem go_min2 {call : CallF} (s : St) (d xs g) : stepGo call s ⟨d, .min2, xs, g⟩ = putK s d (core1 s.o.length (d.getD 999) s.get .min2 (xs.map s.ev)) := by rw [go_op _ _ _ _ _ rfl, core_min2]
@[simp] theorem go_max2 {call : CallF} (s : St) (d xs g) : stepGo call s ⟨d, .max2, xs, g⟩ = putK s d (core1 s.o.length (d.getD 999) s.get .max2 (xs.map s.ev)) := by rw [go_op _ _ _ _ _ rfl, core_max2]
@[simp] theorem go_isnil {call : CallF} (s : St) (d xs g) : stepGo call s ⟨d, .isnil, xs, g⟩ = putK s d (core1 s.o.length (d.getD 999) s.get .isnil (xs.map s.ev)) := by rw [go_op _ _ _ _ _ rfl, core_isnil]
@[simp] theorem go_slice (a b c) {call : CallF} (s : St) (d xs g) : stepGo call s ⟨d, (.slice a b c), xs, g⟩ = putK s d (core1 s.o.length (d.getD 999) s.get (.slice a b c) (xs.map s.ev)) := by rw [go_op _ _ _ _ _ rfl, core_slice]
@[simp] theorem go_copy {call : CallF} (s : St) (d xs g) : stepGo call s ⟨d, .copy, xs, g⟩ = putK s d (core1 s.o.length (d.getD 999) s.get .copy (xs.map s.ev)) := by rw [go_op _ _ _ _ _ rfl, core_copy]
@[simp] theorem go_clear (a b) {call : CallF} (s : St) (d xs g) : stepGo call s ⟨d, (.clear a b), xs, g⟩ = putK s d (core1 s.o.length (d.getD 999) s.get (.clear a b) (xs.map s.ev)) := by rw [go_op _ _ _ _ _ rfl, core_clear]
@[simp] theorem go_mkmap (a) {call : CallF} (s : St) (d xs g) : stepGo call s ⟨d, (.mkmap a), xs, g⟩ = putK s d (core1 s.o.length (d.getD 999) s.get (.mkmap a) (xs.map s.ev)) := by rw [go_op _ _ _ _ _ rfl, core_mkmap]
@[simp] theorem go_lookup (a b c) {call : CallF} (s : St) (d xs g) : stepGo call s ⟨d, (.lookup a b c), xs, g⟩ = putK s d (core1 s.o.length (d.getD 999) s.get (.lookup a b c) (xs.map s.ev)) := by rw [go_op _ _ _ _ _ rfl, core_lookup]
@[simp] theorem go_mapset (a) {call : CallF} (s : St) (d xs g) : stepGo call s ⟨d, (.mapset a), xs, g⟩ = putK s d (core1 s.o.length (d.getD 999) s.get (.mapset a) (xs.map s.ev)) := by rw [go_op _ _ _ _ _ rfl, core_mapset]
@[simp] theorem go_meq (a) {call : CallF} (s : St) (d xs g) : stepGo call s ⟨d, (.meq a), xs, g⟩ = putK s d (core1 s.o.length (d.getD 999) s.get (.meq a) (xs.map s.ev)) := by rw [go_op _ _ _ _ _ rfl, core_meq]
@[simp] theorem go_take {call : CallF} (s : St) (d xs g) : stepGo call s ⟨d, .take, xs, g⟩ = putK s d (core1 s.o.length (d.getD 999) s.get .take (xs.map s.ev)) := by rw [go_op _ _ _ _ _ rfl, core_take]
@[simp] theorem go_nck {call : CallF} (s : St) (d xs g) : stepGo call s ⟨d, .nck, xs, g⟩ = putK s d (core1 s.o.length (d.getD 999) s.get .nck (xs.map s.ev)) := by rw [go_op _ _ _ _ _ rfl, core_nck]
@[simp] theorem go_chk (k : K) {call : CallF} (s : St) (d xs g) : stepGo call s ⟨d, .chk k, xs, g⟩ = putK s d (core s.o.length (d.getD 999) s.get (.chk k) (xs.map s.ev)) := go_op _ _ _ _ _ rfl
/-! #### the operations, by the forms of their operands -/
section
variable (n d : Nat) (g : Id → Option OB)
def guardK (b : Bool) (r : Option (PV × List (Id × OB))) : Option (PV × List (Id × OB)) := if b = true then r else none
@[simp] theorem guardK_t (r) : guardK true r = r := rfl
@[simp] theorem guardK_f (r) : guardK false r = none := rfl
@[simp] theorem c_move (x) : core1 n d g .move [x] = some (x, []) := rfl
@[simp] theorem c_pick (c a b) : core1 n d g .pick [.sc (.bool c), a, b] = some (if c = true then a else b, []) := rfl
@[simp] theorem c_alloc (z) : core1 n d g (.alloc z) [] = if (g (n, d)).isNone = true then some (.ref (n, d) 1 0 0, [((n, d), .box z)]) else none := rfl
@[simp] theorem c_box (x) : core1 n d g .box [x] = if ((g (n, d)).isNone && sure x) = true then some (.ref (n, d) 1 0 0, [((n, d), .box x.cells)]) else none := rfl
def aggK : Option (List PV) → Option (PV × List (Id × OB))
  | some cs => some (.agg cs, [])
  | none => none
@[simp] theorem aggK_s (cs) : aggK (some cs) = some (.agg cs, []) := rfl
@[simp] theorem c_build (z offs xs) : core1 n d g (.build z offs) xs = aggK (buildC z offs xs) := by
  simp only [core1]; cases buildC z offs xs <;> rfl
@[simp] theorem buildC_nil (z) : buildC z [] [] = some z := rfl
@[simp] theorem buildC_cons (z o m os x xs) : buildC z ((o, m) :: os) (x :: xs) = if x.cells.length = m ∧ o + m ≤ z.length ∧ sure x = true then buildC (putC z o x.cells) os xs else none := rfl
def bsK (n d k : Nat) (e : Bool) : Option (List PV × List (Id × OB)) → Option (PV × List (Id × OB))
  | some (ys, ws) => if (nodupId ws && e && ys.all (fun y => decide (y.cells.length = k))) = true then some (.own (n, d) ys.length, ws ++ [((n, d), .row k ys)]) else none
  | none => none
@[simp] theorem bsK_s (k e ys ws) : bsK n d k e (some (ys, ws)) = if (nodupId ws && e && ys.all (fun y => decide (y.cells.length = k))) = true then some (.own (n, d) ys.length, ws ++ [((n, d), .row k ys)]) else none := rfl
@[simp] theorem c_eslice (k) : core1 n d g (.eslice k) [] = if (g (n, d)).isNone = true then some (.own (n, d) 0, [((n, d), .row k [])]) else none := rfl
@[simp] theorem c_bslice0 (k mv) : core1 n d g (.bslice k mv) [] = some (.nils, []) := rfl
@[simp] theorem c_bslice (k mv x xs) : core1 n d g (.bslice k mv) (x :: xs) = bsK n d k (g (n, d)).isNone (packEs mv g (x :: xs)) := by
  simp only [core1]; rcases packEs mv g (x :: xs) with _ | ⟨ys, ws⟩ <;> rfl
def ldC (ok : Bool) : Option PV → Option (PV × List (Id × OB))
  | some v => if ok = true then some (v, []) else none
  | none => none
def ldB (k : Option Nat) (j : Nat) (b : Bool) : Option (List PV) → Option (PV × List (Id × OB))
  | some cs => ldC (plains cs || b) (takeC k cs j)
  | none => none
def ldA (k : Option Nat) (m i j : Nat) : Option OB → Option (PV × List (Id × OB))
  | some ob => ldB k j ob.isBox (ob.elem m i)
  | none => none
@[simp] theorem ldC_s (ok v) : ldC ok (some v) = if ok = true then some (v, []) else none := rfl
@[simp] theorem ldB_s (k j b cs) : ldB k j b (some cs) = ldC (plains cs || b) (takeC k cs j) := rfl
@[simp] theorem ldA_s (k m i j ob) : ldA k m i j (some ob) = ldB k j ob.isBox (ob.elem m i) := rfl
@[simp] theorem c_loadr (k tk id m i j) : core1 n d g (.load k tk) [.ref id m i j] = ldA k m i j (g id) := by
  simp only [core1]
  cases g id with
  | none => rfl
  | some ob => simp only [ldA]; cases ob.elem m i with
    | none => rfl
    | some cs => simp only [ldB]; cases takeC k cs j <;> rfl
@[simp] theorem c_loadi (k tk cs j) : core1 n d g (.load k tk) [.iref cs j] = ldC true (takeC k cs j) := by
  simp only [core1]; cases takeC k cs j <;> rfl
def stC (id : Id) (k w i j : Nat) (xs : List PV) (ys : List PV) (ws : List (Id × OB)) : Option PV → Option (PV × List (Id × OB))
  | some e => if ys.length = w ∧ j + w ≤ e.cells.length then some (.undef, ws ++ [(id, .row k (xs.set i (unAgg e (putC e.cells j ys))))]) else none
  | none => none
def stB (id : Id) (k w i j : Nat) (xs : List PV) : Option (List PV × List (Id × OB)) → Option (PV × List (Id × OB))
  | some (ys, ws) => if nodupId ((id, .dead) :: ws) = true then stC id k w i j xs ys ws (nth xs i) else none
  | none => none
def stA (g : Id → Option OB) (id : Id) (w : Nat) (mv : Bool) (m i j : Nat) (x : PV) : Option OB → Option (PV × List (Id × OB))
  | some (.box cs) => if x.cells.length = w ∧ sure x = true ∧ m = 1 ∧ i = 0 ∧ j + w ≤ cs.length ∧ upTos id.1 x.cells = true then some (.undef, [(id, .box (putC cs j x.cells))]) else none
  | some (.row k xs) => if m = xs.length then stB id k w i j xs (packs mv g x.cells) else none
  | _ => none
@[simp] theorem stC_s (id k w i j xs ys ws e) : stC id k w i j xs ys ws (some e) = if ys.length = w ∧ j + w ≤ e.cells.length then some (.undef, ws ++ [(id, .row k (xs.set i (unAgg e (putC e.cells j ys))))]) else none := rfl
@[simp] theorem stB_s (id k w i j xs ys ws) : stB id k w i j xs (some (ys, ws)) = if nodupId ((id, .dead) :: ws) = true then stC id k w i j xs ys ws (nth xs i) else none := rfl
@[simp] theorem stA_b (id w mv m i j x cs) : stA g id w mv m i j x (some (.box cs)) = if x.cells.length = w ∧ sure x = true ∧ m = 1 ∧ i = 0 ∧ j + w ≤ cs.length ∧ upTos id.1 x.cells = true then some (.undef, [(id, .box (putC cs j x.cells))]) else none := rfl
@[simp] theorem stA_r (id w mv m i j x k xs) : stA g id w mv m i j x (some (.row k xs)) = if m = xs.length then stB id k w i j xs (packs mv g x.cells) else none := rfl
@[simp] theorem c_store (w mv id m i j x) : core1 n d g (.store w mv) [.ref id m i j, x] = stA g id w mv m i j x (g id) := by
  simp only [core1]
  rcases g id with _ | ob
  · rfl
  · cases ob <;> rfl
def someK : Option PV → Option (PV × List (Id × OB))
  | some v => some (v, [])
  | none => none
@[simp] theorem someK_s (v) : someK (some v) = some (v, []) := rfl
@[simp] theorem c_bin (op x y) : core1 n d g (.bin op) [x, y] = someK (bin op x y) := by
  simp only [core1]; cases bin op x y <;> rfl
@[simp] theorem b_add (k a b) : bin .add (.sc (.int k a)) (.sc (.int k b)) = some (.sc (.int k (k.wrap (a + b)))) := by simp [bin]
@[simp] theorem b_sub (k a b) : bin .sub (.sc (.int k a)) (.sc (.int k b)) = some (.sc (.int k (k.wrap (a - b)))) := by simp [bin]
@[simp] theorem b_mul (k a b) : bin .mul (.sc (.int k a)) (.sc (.int k b)) = some (.sc (.int k (k.wrap (a * b)))) := by simp [bin]
@[simp] theorem b_quo (k a b) : bin .quo (.sc (.int k a)) (.sc (.int k b)) = if b = 0 then none else some (.sc (.int k (k.wrap (a.tdiv b)))) := by simp [bin]
@[simp] theorem b_rem (k a b) : bin .rem (.sc (.int k a)) (.sc (.int k b)) = if b = 0 then none else some (.sc (.int k (a.tmod b))) := by simp [bin]
@[simp] theorem b_eq (k a b) : bin .eq (.sc (.int k a)) (.sc (.int k b)) = some (.b (decide (a = b))) := by simp [bin]; rfl
@[simp] theorem b_ne (k a b) : bin .ne (.sc (.int k a)) (.sc (.int k b)) = some (.b (decide (¬ a = b))) := by
  simp only [bin, if_true]; congr 3; simp [bne]; rfl
@[simp] theorem b_lt (k a b) : bin .lt (.sc (.int k a)) (.sc (.int k b)) = some (.b (decide (a < b))) := by simp [bin]
@[simp] theorem b_le (k a b) : bin .le (.sc (.int k a)) (.sc (.int k b)) = some (.b (decide (a ≤ b))) := by simp [bin]
@[simp] theorem b_gt (k a b) : bin .gt (.sc (.int k a)) (.sc (.int k b)) = some (.b (decide (b < a))) := by simp [bin]
@[simp] theorem b_ge (k a b) : bin .ge (.sc (.int k a)) (.sc (.int k b)) = some (.b (decide (b ≤ a))) := by simp [bin]
@[simp] theorem b_adds (a b) : bin .add (.sc (.string a)) (.sc (.string b)) = if a.size + b.size ≤ 9223372036854775807 then some (.s (a ++ b)) else none := rfl
@[simp] theorem b_eqs (a b) : bin .eq (.sc (.string a)) (.sc (.string b)) = some (.b (a.toList == b.toList)) := rfl
@[simp] theorem b_nes (a b) : bin .ne (.sc (.string a)) (.sc (.string b)) = some (.b (!(a.toList == b.toList))) := rfl
@[simp] theorem b_lts (a b) : bin .lt (.sc (.string a)) (.sc (.string b)) = some (.b (Op.bytesLess a.toList b.toList)) := rfl
@[simp] theorem c_beq (a b) : core1 n d g .beq [.sc (.bool a), .sc (.bool b)] = some (.b (a == b), []) := rfl
@[simp] theorem c_bne (a b) : core1 n d g .bne [.sc (.bool a), .sc (.bool b)] = some (.b (!(a == b)), []) := rfl
@[simp] theorem c_not (b) : core1 n d g .not [.sc (.bool b)] = some (.b (!b), []) := rfl
@[simp] theorem c_neg (k a) : core1 n d g .neg [.sc (.int k a)] = some (.sc (.int k (k.wrap (0 - a))), []) := rfl
@[simp] theorem c_faddr (off id m i j) : core1 n d g (.faddr off) [.ref id m i j] = if live g id m i = true then some (.ref id m i (j + off), []) else none := rfl
@[simp] theorem c_faddri (off cs j) : core1 n d g (.faddr off) [.iref cs j] = some (.iref cs (j + off), []) := rfl
def irK : Option PV → Option (PV × List (Id × OB))
  | some e => some (.iref e.cells 0, [])
  | none => none
@[simp] theorem irK_s (e) : irK (some e) = some (.iref e.cells 0, []) := rfl
@[simp] theorem c_iaddr (es k xs i) : core1 n d g (.iaddr es) [.sl false k xs, .sc (.int .i64 i)] = if k = es ∧ ib i xs.length = true then irK (nth xs i.toNat) else none := by
  simp only [core1]; cases nth xs i.toNat <;> rfl
def iaK (id : Id) (es m : Nat) (i : Int) : Option OB → Option (PV × List (Id × OB))
  | some (.row k xs) => if k = es ∧ m = xs.length ∧ ib i m = true then some (.ref id m i.toNat 0, []) else none
  | some (.frz k xs) => if k = es ∧ m = xs.length ∧ ib i m = true then irK (nth xs i.toNat) else none
  | _ => none
@[simp] theorem iaK_r (id es m i k xs) : iaK id es m i (some (.row k xs)) = if k = es ∧ m = xs.length ∧ ib i m = true then some (.ref id m i.toNat 0, []) else none := rfl
@[simp] theorem iaK_f (id es m i k xs) : iaK id es m i (some (.frz k xs)) = if k = es ∧ m = xs.length ∧ ib i m = true then irK (nth xs i.toNat) else none := rfl
@[simp] theorem c_iaddro (es id m i) : core1 n d g (.iaddr es) [.own id m, .sc (.int .i64 i)] = iaK id es m i (g id) := by
  simp only [core1]
  rcases g id with _ | ob
  · rfl
  · cases ob <;> rfl
@[simp] theorem c_iarr (es m id a b j i) : core1 n d g (.iarr es m) [.ref id a b j, .sc (.int .i64 i)] = if (live g id a b && ib i m) = true then some (.ref id a b (j + i.toNat * es), []) else none := rfl
@[simp] theorem c_iarri (es m cs j i) : core1 n d g (.iarr es m) [.iref cs j, .sc (.int .i64 i)] = if ib i m = true then some (.iref cs (j + i.toNat * es), []) else none := rfl
@[simp] theorem c_idx (k es m cs i) : core1 n d g (.idx k es m) [.agg cs, .sc (.int .i64 i)] = if ib i m = true then ldC true (takeC k cs (i.toNat * es)) else none := by
  simp only [core1]; cases takeC k cs (i.toNat * es) <;> rfl
@[simp] theorem c_istr (b i) : core1 n d g .istr [.sc (.string b), .sc (.int .i64 i)] = if h : 0 ≤ i ∧ i.toNat < b.size then some (.sc (.int .u8 (b[i.toNat]'h.2).toNat), []) else none := rfl
@[simp] theorem c_fld (k off cs) : core1 n d g (.fld k off) [.agg cs] = ldC true (takeC k cs off) := by
  simp only [core1]; cases takeC k cs off <;> rfl
def exK : Option PV → Option (PV × List (Id × OB))
  | some (.tup _) => none
  | some v => some (v, [])
  | none => none
@[simp] theorem exK_sc (v) : exK (some (.sc v)) = some (.sc v, []) := rfl
@[simp] theorem exK_agg (v) : exK (some (.agg v)) = some (.agg v, []) := rfl
@[simp] theorem exK_nils : exK (some .nils) = some (.nils, []) := rfl
@[simp] theorem exK_sl (u k v) : exK (some (.sl u k v)) = some (.sl u k v, []) := rfl
@[simp] theorem exK_own (u k) : exK (some (.own u k)) = some (.own u k, []) := rfl
@[simp] theorem exK_ref (a b c e) : exK (some (.ref a b c e)) = some (.ref a b c e, []) := rfl
@[simp] theorem c_ext (i vs) : core1 n d g (.ext i) [.tup vs] = exK vs[i]? := by
  simp only [core1]; rcases vs[i]? with _ | v
  · rfl
  · cases v <;> rfl
@[simp] theorem c_lensl (u k xs) : core1 n d g .len [.sl u k xs] = some (.i xs.length, []) := rfl
@[simp] theorem c_lennil : core1 n d g .len [.nils] = some (.i 0, []) := rfl
def lenK (m : Nat) : Option OB → Option (PV × List (Id × OB))
  | some (.row _ xs) => if m = xs.length then some (.i m, []) else none
  | some (.frz _ xs) => if m = xs.length then some (.i m, []) else none
  | _ => none
@[simp] theorem lenK_r (m k xs) : lenK m (some (.row k xs)) = if m = xs.length then some (.i m, []) else none := rfl
@[simp] theorem lenK_f (m k xs) : lenK m (some (.frz k xs)) = if m = xs.length then some (.i m, []) else none := rfl
@[simp] theorem c_lenown (id m) : core1 n d g .len [.own id m] = lenK m (g id) := by
  simp only [core1]; rcases g id with _ | ob
  · rfl
  · cases ob <;> rfl
@[simp] theorem c_lens (b) : core1 n d g .lens [.sc (.string b)] = some (.i b.size, []) := rfl
def apO (id : Id) (k m : Nat) (ys : List PV) (ws : List (Id × OB)) : Option OB → Option (PV × List (Id × OB))
  | some (.row k' xs) => if k' = k ∧ m = xs.length ∧ nodupId ((id, OB.dead) :: ws) = true ∧ xs.length + ys.length ≤ 4294967296 then some (.own id (xs.length + ys.length), ws ++ [(id, .row k (xs ++ ys))]) else none
  | _ => none
@[simp] theorem apO_r (id k m ys ws k' xs) : apO id k m ys ws (some (.row k' xs)) = if k' = k ∧ m = xs.length ∧ nodupId ((id, OB.dead) :: ws) = true ∧ xs.length + ys.length ≤ 4294967296 then some (.own id (xs.length + ys.length), ws ++ [(id, .row k (xs ++ ys))]) else none := rfl
def apNil (n d k : Nat) (e : Bool) : Option (List PV × List (Id × OB)) → Option (PV × List (Id × OB))
  | some (ys, ws) => if ys.length ≤ 4294967296 ∧ e = true then some (.own (n, d) ys.length, ws ++ [((n, d), .row k ys)]) else none
  | none => none
@[simp] theorem apNil_s (k e ys ws) : apNil n d k e (some (ys, ws)) = if ys.length ≤ 4294967296 ∧ e = true then some (.own (n, d) ys.length, ws ++ [((n, d), .row k ys)]) else none := rfl
def apOwn (g : Id → Option OB) (id : Id) (k m : Nat) : Option (List PV × List (Id × OB)) → Option (PV × List (Id × OB))
  | some (ys, ws) => apO id k m ys ws (g id)
  | none => none
@[simp] theorem apOwn_s (id k m ys ws) : apOwn g id k m (some (ys, ws)) = apO id k m ys ws (g id) := rfl
@[simp] theorem c_appnil (k cons x) : core1 n d g (.append k cons) [.nils, x] = apNil n d k (g (n, d)).isNone (srcOf g k cons x) := by
  simp only [core1]; rcases srcOf g k cons x with _ | ⟨ys, ws⟩ <;> rfl
@[simp] theorem c_appown (k cons id m x) : core1 n d g (.append k cons) [.own id m, x] = apOwn g id k m (srcOf g k cons x) := by
  simp only [core1]; rcases srcOf g k cons x with _ | ⟨ys, ws⟩
  · rfl
  · simp only [apOwn]; rcases g id with _ | ob
    · rfl
    · cases ob <;> rfl
@[simp] theorem c_mkslice (k z m c) : core1 n d g (.mkslice k z) [.sc (.int .i64 m), .sc (.int .i64 c)] = if m = c ∧ 0 ≤ m ∧ m ≤ 4294967296 ∧ (g (n, d)).isNone = true then some (.own (n, d) m.toNat, [((n, d), .row k (List.replicate m.toNat z))]) else none := rfl
@[simp] theorem c_mkfunc (f xs) : core1 n d g (.mkfunc f) xs = if xs.all (fun x => sure x && cellP x) = true then some (.clo f xs, []) else none := rfl
@[simp] theorem c_conv (k k' a) : core1 n d g (.conv k) [.sc (.int k' a)] = some (.sc (.int k (k.wrap a)), []) := rfl
@[simp] theorem c_min2 (a b) : core1 n d g .min2 [.sc (.int .i64 a), .sc (.int .i64 b)] = some (.i (if b < a then b else a), []) := rfl
@[simp] theorem c_max2 (a b) : core1 n d g .max2 [.sc (.int .i64 a), .sc (.int .i64 b)] = some (.i (if a < b then b else a), []) := rfl
@[simp] theorem c_isnilv (A m q y) : core1 n d g .isnil [.sc (.slice A m q), y] = some (.b A.isNone, []) := rfl
@[simp] theorem c_isnil (u k x xs y) : core1 n d g .isnil [.sl u k (x :: xs), y] = some (.b false, []) := rfl
def tkC (n d : Nat) (id : Id) (k i j : Nat) (xs : List PV) (e : PV) : Option PV → Option (PV × List (Id × OB))
  | some (.sl true k' ys) => some (.own (n, d) ys.length, [(id, .row k (xs.set i (unAgg e (e.cells.set j .undef)))), ((n, d), .row k' ys)])
  | some .nils => some (.nils, [])
  | _ => none
def tkB (n d : Nat) (id : Id) (k i j : Nat) (xs : List PV) : Option PV → Option (PV × List (Id × OB))
  | some e => tkC n d id k i j xs e (nth e.cells j)
  | none => none
def tkA (n d : Nat) (id : Id) (m i j : Nat) (fresh : Bool) : Option OB → Option (PV × List (Id × OB))
  | some (.row k xs) => if m = xs.length ∧ fresh = true then tkB n d id k i j xs (nth xs i) else none
  | _ => none
@[simp] theorem tkC_s (id k i j xs e k' ys) : tkC n d id k i j xs e (some (.sl true k' ys)) = some (.own (n, d) ys.length, [(id, .row k (xs.set i (unAgg e (e.cells.set j .undef)))), ((n, d), .row k' ys)]) := rfl
@[simp] theorem tkC_n (id k i j xs e) : tkC n d id k i j xs e (some .nils) = some (.nils, []) := rfl
@[simp] theorem tkB_s (id k i j xs e) : tkB n d id k i j xs (some e) = tkC n d id k i j xs e (nth e.cells j) := rfl
@[simp] theorem tkA_s (id m i j fresh k xs) : tkA n d id m i j fresh (some (.row k xs)) = if m = xs.length ∧ fresh = true then tkB n d id k i j xs (nth xs i) else none := rfl
@[simp] theorem nth_0 (x xs) : nth (x :: xs) 0 = some x := rfl
@[simp] theorem nth_s (x xs i) : nth (x :: xs) (i + 1) = nth xs i := by simp [nth]
@[simp] theorem nth_1 (x y xs) : nth (x :: y :: xs) 1 = some y := rfl
@[simp] theorem nth_2 (x y z xs) : nth (x :: y :: z :: xs) 2 = some z := rfl
@[simp] theorem nth_3 (x y z u xs) : nth (x :: y :: z :: u :: xs) 3 = some u := rfl
@[simp] theorem nth_4 (x y z u v xs) : nth (x :: y :: z :: u :: v :: xs) 4 = some v := rfl
@[simp] theorem nth_5 (x y z u v a xs) : nth (x :: y :: z :: u :: v :: a :: xs) 5 = some a := rfl
@[simp] theorem c_take (id m i j) : core1 n d g .take [.ref id m i j] = tkA n d id m i j (g (n, d)).isNone (g id) := by
  simp only [core1]
  rcases g id with _ | ob
  · rfl
  · cases ob <;> rfl
@[simp] theorem sliceOf_lo1 (m : Nat) (a : Int) : sliceOf true false m [.sc (.int .i64 a)] = if 0 ≤ a ∧ a ≤ m then some (a.toNat, m) else none := by simp [sliceOf]
@[simp] theorem sliceOf_hi1 (m : Nat) (a : Int) : sliceOf false true m [.sc (.int .i64 a)] = if 0 ≤ a ∧ a ≤ m then some (0, a.toNat) else none := by simp [sliceOf]
@[simp] theorem sliceOf_2 (m : Nat) (a b : Int) : sliceOf true true m [.sc (.int .i64 a), .sc (.int .i64 b)] = if 0 ≤ a ∧ a ≤ b ∧ b ≤ m then some (a.toNat, b.toNat) else none := by simp [sliceOf]
@[simp] theorem sliceOf_0 (m : Nat) : sliceOf false false m [] = some (0, m) := rfl
def slF (k : Nat) (xs : List PV) : Option (Nat × Nat) → Option (PV × List (Id × OB))
  | some (l, h) => some (.sl false k ((xs.drop l).take (h - l)), [])
  | none => none
@[simp] theorem slF_s (k xs l h) : slF k xs (some (l, h)) = some (.sl false k ((xs.drop l).take (h - l)), []) := rfl
@[simp] theorem slF_o (k xs) : slF k xs none = none := rfl
@[simp] theorem c_slf (es lo hi k xs bs) : core1 n d g (.slice es lo hi) (.sl false k xs :: bs) = if k = es then slF k xs (sliceOf lo hi xs.length bs) else none := by
  simp only [core1]; rcases sliceOf lo hi xs.length bs with _ | ⟨l, h⟩ <;> rfl
@[simp] theorem strO_s (ns) : strO (some ns) = some (.s (strU ns), []) := rfl
@[simp] theorem strO_o : strO none = none := rfl
def bsO : Option (List PV × List (Id × OB)) → Option (PV × List (Id × OB))
  | some (ys, _) => strO (u8s ys)
  | none => none
@[simp] theorem bsO_s (ys ws) : bsO (some (ys, ws)) = strO (u8s ys) := rfl
@[simp] theorem bsO_o : bsO none = none := rfl
@[simp] theorem c_bstr (x) : core1 n d g .bstr [x] = bsO (srcOf g 1 false x) := by
  cases x <;> (simp only [core1]; rcases srcOf g 1 false _ with _ | ⟨ys, ws⟩ <;> first | rfl | (simp only [bsO]; rcases u8s ys with _ | ns <;> rfl))
def ssP (b : ByteArray) : Option (Nat × Nat) → Option (PV × List (Id × OB))
  | some (l, h) => some (.s (b.extract l h), [])
  | none => none
@[simp] theorem ssP_s (b l h) : ssP b (some (l, h)) = some (.s (b.extract l h), []) := rfl
@[simp] theorem ssP_o (b) : ssP b none = none := rfl
@[simp] theorem c_sstr (lo hi b bs) : core1 n d g (.sstr lo hi) (.sc (.string b) :: bs) = ssP b (sliceOf lo hi b.size bs) := by
  simp only [core1]; rcases sliceOf lo hi b.size bs with _ | ⟨l, h⟩ <;> rfl
def fsP (id : Id) (k : Nat) (xs : List PV) : Option (Nat × Nat) → Option (PV × List (Id × OB))
  | some (l, h) => some (.sl false k (((fals xs).drop l).take (h - l)), [(id, .frz k (fals xs))])
  | none => none
@[simp] theorem fsP_s (id k xs l h) : fsP id k xs (some (l, h)) = some (.sl false k (((fals xs).drop l).take (h - l)), [(id, .frz k (fals xs))]) := rfl
@[simp] theorem fsP_o (id k xs) : fsP id k xs none = none := rfl
def fsO (id : Id) (m es : Nat) (bs : List PV) : Option OB → Option (PV × List (Id × OB))
  | some (.row k xs) => if m = xs.length ∧ k = es then fsP id k xs (sliceOf true false m bs) else none
  | _ => none
@[simp] theorem fsO_r (id m es bs k xs) : fsO id m es bs (some (.row k xs)) = if m = xs.length ∧ k = es then fsP id k xs (sliceOf true false m bs) else none := rfl
@[simp] theorem c_fsl (es id m bs) : core1 n d g (.fsl es) (.own id m :: bs) = fsO id m es bs (g id) := by
  simp only [core1]
  rcases hg : g id with _ | ob
  · rfl
  · cases ob <;> first | rfl | (simp only [fsO]; split <;> first | rfl | (rcases sliceOf true false m bs with _ | ⟨l, h⟩ <;> rfl))
def slP (n d : Nat) (id : Id) (m k : Nat) (xs : List PV) (lo hi fresh : Bool) : Option (Nat × Nat) → Option (PV × List (Id × OB))
  | some (l, h) => if hi = false then some (.sub id m l, []) else if lo = false ∧ fresh = true then some (.own (n, d) h, [(id, .dead), ((n, d), .row k (xs.take h))]) else none
  | none => none
@[simp] theorem slP_s (id m k xs lo hi fresh l h) : slP n d id m k xs lo hi fresh (some (l, h)) = if hi = false then some (.sub id m l, []) else if lo = false ∧ fresh = true then some (.own (n, d) h, [(id, .dead), ((n, d), .row k (xs.take h))]) else none := rfl
@[simp] theorem slP_o (id m k xs lo hi fresh) : slP n d id m k xs lo hi fresh none = none := rfl
def slO (n d : Nat) (id : Id) (m es : Nat) (lo hi fresh : Bool) (bs : List PV) : Option OB → Option (PV × List (Id × OB))
  | some (.row k xs) => if m = xs.length ∧ k = es then slP n d id m k xs lo hi fresh (sliceOf lo hi m bs) else none
  | _ => none
@[simp] theorem slO_r (id m es lo hi fresh bs k xs) : slO n d id m es lo hi fresh bs (some (.row k xs)) = if m = xs.length ∧ k = es then slP n d id m k xs lo hi fresh (sliceOf lo hi m bs) else none := rfl
@[simp] theorem c_slo (es lo hi id m bs) : core1 n d g (.slice es lo hi) (.own id m :: bs) = slO n d id m es lo hi (g (n, d)).isNone bs (g id) := by
  simp only [core1]; rcases g id with _ | ob
  · rfl
  · cases ob with
    | row k xs => simp only [slO]; rcases sliceOf lo hi m bs with _ | ⟨l, h⟩ <;> rfl
    | _ => rfl
def lenS (m i : Nat) : Option OB → Option (PV × List (Id × OB))
  | some (.row _ xs) => if m = xs.length then some (.i (m - i : Nat), []) else none
  | _ => none
@[simp] theorem lenS_r (m i k xs) : lenS m i (some (.row k xs)) = if m = xs.length then some (.i (m - i : Nat), []) else none := rfl
@[simp] theorem c_lensub (id m i) : core1 n d g .len [.sub id m i] = lenS m i (g id) := by
  simp only [core1]; rcases g id with _ | ob
  · rfl
  · cases ob <;> rfl
def iaS (id : Id) (es m i : Nat) (q : Int) : Option OB → Option (PV × List (Id × OB))
  | some (.row k xs) => if k = es ∧ m = xs.length ∧ ib q (m - i) = true then some (.ref id m (i + q.toNat) 0, []) else none
  | _ => none
@[simp] theorem iaS_r (id es m i q k xs) : iaS id es m i q (some (.row k xs)) = if k = es ∧ m = xs.length ∧ ib q (m - i) = true then some (.ref id m (i + q.toNat) 0, []) else none := rfl
@[simp] theorem c_iaddrs (es id m i q) : core1 n d g (.iaddr es) [.sub id m i, .sc (.int .i64 q)] = iaS id es m i q (g id) := by
  simp only [core1]; rcases g id with _ | ob
  · rfl
  · cases ob <;> rfl
def clS (id : Id) (k m i : Nat) (z : PV) : Option OB → Option (PV × List (Id × OB))
  | some (.row k' xs) => if k' = k ∧ m = xs.length then some (.tup [], [(id, .row k (xs.take i ++ List.replicate (m - i) z))]) else none
  | _ => none
@[simp] theorem clS_r (id k m i z k' xs) : clS id k m i z (some (.row k' xs)) = if k' = k ∧ m = xs.length then some (.tup [], [(id, .row k (xs.take i ++ List.replicate (m - i) z))]) else none := rfl
@[simp] theorem c_clear (k z id m i) : core1 n d g (.clear k z) [.sub id m i] = clS id k m i z (g id) := by
  simp only [core1]; rcases g id with _ | ob
  · rfl
  · cases ob <;> rfl
def cpB (id : Id) (m i : Nat) (xs : List PV) : Option (List PV × List (Id × OB)) → Option (PV × List (Id × OB))
  | some (ys, _) => if scs ys = true ∧ i ≤ m then some (.i (min (m - i) ys.length : Nat), [(id, .row 1 (xs.take i ++ ys.take (min (m - i) ys.length) ++ xs.drop (i + min (m - i) ys.length)))]) else none
  | none => none
@[simp] theorem cpB_s (id m i xs ys ws) : cpB id m i xs (some (ys, ws)) = if scs ys = true ∧ i ≤ m then some (.i (min (m - i) ys.length : Nat), [(id, .row 1 (xs.take i ++ ys.take (min (m - i) ys.length) ++ xs.drop (i + min (m - i) ys.length)))]) else none := rfl
def cpA (id : Id) (m i : Nat) (r : Option (List PV × List (Id × OB))) : Option OB → Option (PV × List (Id × OB))
  | some (.row k xs) => if m = xs.length ∧ k = 1 ∧ scs xs = true then cpB id m i xs r else none
  | _ => none
@[simp] theorem cpA_r (id m i r k xs) : cpA id m i r (some (.row k xs)) = if m = xs.length ∧ k = 1 ∧ scs xs = true then cpB id m i xs r else none := rfl
@[simp] theorem c_copy (id m i x) : core1 n d g .copy [.sub id m i, x] = cpA id m i (srcOf g 1 false x) (g id) := by
  simp only [core1]; rcases g id with _ | ob
  · rfl
  · cases ob with
    | row k xs => simp only [cpA]; rcases srcOf g 1 false x with _ | ⟨ys, ws⟩ <;> rfl
    | _ => rfl
@[simp] theorem c_mkmap (s) : core1 n d g (.mkmap s) [] = if (g (n, d)).isNone then some (.mp (n, d), [((n, d), .map s [])]) else none := rfl
@[simp] theorem keyOf_i (a : Int) : keyOf (.int .i64 a) = some (.i a) := rfl
@[simp] theorem keyOf_s (b : ByteArray) : keyOf (.string b) = some (.s b) := rfl
@[simp] theorem str_i (a : Int) : (Key.i a).str = false := rfl
@[simp] theorem str_s (b : ByteArray) : (Key.s b).str = true := rfl
@[simp] theorem lkR_t (z r) : lkR true z r = .tup [r.getD z, .b r.isSome] := rfl
@[simp] theorem lkR_f (z r) : lkR false z r = r.getD z := rfl
def lkK (s ok : Bool) (z : PV) : Option OB → Option Key → Option (PV × List (Id × OB))
  | some (.map s' es), some k => if s' = s ∧ k.str = s then some (lkR ok z (lkp k es), []) else none
  | some (.fmap s' es), some k => if s' = s ∧ k.str = s then some (lkR ok z (lkp k es), []) else none
  | _, _ => none
@[simp] theorem lkK_f (s ok z s' es k) : lkK s ok z (some (.fmap s' es)) (some k) = if s' = s ∧ k.str = s then some (lkR ok z (lkp k es), []) else none := rfl
@[simp] theorem lkK_s (s ok z s' es k) : lkK s ok z (some (.map s' es)) (some k) = if s' = s ∧ k.str = s then some (lkR ok z (lkp k es), []) else none := rfl
@[simp] theorem c_lookup (s z ok id kv) : core1 n d g (.lookup s z ok) [.mp id, .sc kv] = lkK s ok z (g id) (keyOf kv) := by
  simp only [core1]; rcases g id with _ | ob
  · rfl
  · cases ob <;> cases keyOf kv <;> rfl
@[simp] theorem c_lookupn (s z ok a) : core1 n d g (.lookup s z ok) [.sc (.map none), .sc (.int .i64 a)] = if s = false then some (lkR ok z none, []) else none := by cases s <;> rfl
def msB (s : Bool) (id : Id) (es : List (Key × PV)) (k : Key) : Option (PV × List (Id × OB)) → Option (PV × List (Id × OB))
  | some (y, ws) => if nodupId ((id, .dead) :: ws) = true then some (.undef, ws ++ [(id, .map s (ins k y es))]) else none
  | none => none
@[simp] theorem msB_s (s id es k y ws) : msB s id es k (some (y, ws)) = if nodupId ((id, .dead) :: ws) = true then some (.undef, ws ++ [(id, .map s (ins k y es))]) else none := rfl
def msA (s : Bool) (id : Id) (p : Option (PV × List (Id × OB))) : Option OB → Option Key → Option (PV × List (Id × OB))
  | some (.map s' es), some k => if s' = s ∧ k.str = s then msB s id es k p else none
  | _, _ => none
@[simp] theorem msA_s (s id p s' es k) : msA s id p (some (.map s' es)) (some k) = if s' = s ∧ k.str = s then msB s id es k p else none := rfl
@[simp] theorem c_mapset (s id kv x) : core1 n d g (.mapset s) [.mp id, .sc kv, x] = msA s id (packE false g x) (g id) (keyOf kv) := by
  simp only [core1]; rcases g id with _ | ob
  · rfl
  · cases ob with
    | map s' es => cases keyOf kv with
      | none => rfl
      | some k => simp only [msA]; rcases packE false g x with _ | ⟨y, ws⟩ <;> rfl
    | _ => rfl
@[simp] theorem c_meq (neg a b a' b') : core1 n d g (.meq neg) [.agg [.sc (.int .i64 a), .sc (.int .i64 b)], .agg [.sc (.int .i64 a'), .sc (.int .i64 b')]] = some (.b (neg != (decide (a = a') && decide (b = b'))), []) := rfl
@[simp] theorem c_ncki (cs j) : core1 n d g .nck [.iref cs j] = some (.iref cs j, []) := rfl
@[simp] theorem c_nckc (f caps) : core1 n d g .nck [.clo f caps] = some (.clo f caps, []) := rfl
@[simp] theorem c_nckr (id m i j) : core1 n d g .nck [.ref id m i j] = if live g id m i = true then some (.ref id m i j, []) else none := rfl
end
/-! #### a branch on a condition that stays -/
section
variable {call : CallF} {lp : List Nat → List Nat → AC → St → Option (EX × St)}
variable {p : Prop} [Decidable p]
@[simp] theorem condK_b (a b) (s : St) (t : Bool) : condK call lp a b s (.sc (.bool t)) = if t = true then run call lp a s else run call lp b s := rfl
@[simp] theorem condK_i (a b) (s : St) (x y) : condK call lp a b s (if p then x else y) = if p then condK call lp a b s x else condK call lp a b s y := by split <;> rfl
@[simp] theorem seqK_i (b) (x y) : seqK call lp b (if p then x else y) = if p then seqK call lp b x else seqK call lp b y := by split <;> rfl
@[simp] theorem blockK_i (n) (x y) : blockK n (if p then x else y) = if p then blockK n x else blockK n y := by split <;> rfl
@[simp] theorem stepsK_i (r) (x y) : stepsK call r (if p then x else y) = if p then stepsK call r x else stepsK call r y := by split <;> rfl
@[simp] theorem regK_i (lv ob) (x y) : regK lv ob (if p then x else y) = if p then regK lv ob x else regK lv ob y := by split <;> rfl
@[simp] theorem putK_i (s : St) (d) (x y) : putK s d (if p then x else y) = if p then putK s d x else putK s d y := by split <;> rfl
def setR : Regs → Nat → PV → Regs
  | [], _, _ => []
  | (k, v) :: r, t, x => if k = t then (k, x) :: r else (k, v) :: setR r t x
@[simp] theorem setR_cons (k v r t x) : setR ((k, v) :: r) t x = if k = t then (k, x) :: r else (k, v) :: setR r t x := rfl
theorem setR_get : ∀ (r : Regs) (t : Nat), setR r t (getR r t) = r
  | [], _ => rfl
  | (k, v) :: r, t => by
    simp only [setR, getR]
    by_cases h : k = t <;> simp [h, setR_get r t]
/-- A guarded step and what follows: the guard's value stands in its register. -/
noncomputable def gsK (call : CallF) (s : St) (a : AI) (r : List AI) (j : Nat) (w : Bool) (v : PV) : Option St :=
  stepsK call r (match v with
    | .sc (.bool b) => if b = w then stepGo call { s with r := setR s.r j v } a else some (({ s with r := setR s.r j v } : St).put a.d .non)
    | .non => some (({ s with r := setR s.r j v } : St).put a.d .non)
    | _ => none)
@[simp] theorem steps_g (d k xs j w r) (s : St) : steps call s (⟨d, k, xs, some (j, w)⟩ :: r) = gsK call s ⟨d, k, xs, some (j, w)⟩ r j w (getR s.r j) := by
  generalize hv : getR s.r j = v
  have h : ({ s with r := setR s.r j v } : St) = s := by rw [← hv, setR_get]
  unfold gsK
  rw [steps_cons', h, stepI_eq]
  dsimp only
  rw [hv]
  all_goals (cases v with
    | sc u => cases u <;> rfl
    | _ => rfl)
@[simp high] theorem gsK_tt (s : St) (a r j) : gsK call s a r j true (.sc (.bool true)) = stepsK call r (stepGo call { s with r := setR s.r j (.sc (.bool true)) } a) := rfl
@[simp high] theorem gsK_tf (s : St) (a r j) : gsK call s a r j true (.sc (.bool false)) = steps call (({ s with r := setR s.r j (.sc (.bool false)) } : St).put a.d .non) r := rfl
@[simp high] theorem gsK_ft (s : St) (a r j) : gsK call s a r j false (.sc (.bool true)) = steps call (({ s with r := setR s.r j (.sc (.bool true)) } : St).put a.d .non) r := rfl
@[simp high] theorem gsK_ff (s : St) (a r j) : gsK call s a r j false (.sc (.bool false)) = stepsK call r (stepGo call { s with r := setR s.r j (.sc (.bool false)) } a) := rfl
@[simp] theorem gsK_n (s : St) (a r j w) : gsK call s a r j w .non = steps call (({ s with r := setR s.r j .non } : St).put a.d .non) r := rfl
@[simp] theorem gsK_b (s : St) (a r j w c) : gsK call s a r j w (.sc (.bool c)) = if c = true then gsK call s a r j w (.sc (.bool true)) else gsK call s a r j w (.sc (.bool false)) := by cases c <;> rfl
@[simp] theorem merge1 (e : EX) (k0 : Nat) (a0 b0 : PV) (l o) : (if p then some (e, St.mk [(k0, a0)] l o) else some (e, St.mk [(k0, b0)] l o)) = some (e, St.mk [(k0, if p then a0 else b0)] l o) := by split <;> rfl
@[simp] theorem merge2 (e : EX) (k0 k1 : Nat) (a0 a1 b0 b1 : PV) (l o) : (if p then some (e, St.mk [(k0, a0), (k1, a1)] l o) else some (e, St.mk [(k0, b0), (k1, b1)] l o)) = some (e, St.mk [(k0, if p then a0 else b0), (k1, if p then a1 else b1)] l o) := by split <;> rfl
@[simp] theorem merge3 (e : EX) (k0 k1 k2 : Nat) (a0 a1 a2 b0 b1 b2 : PV) (l o) : (if p then some (e, St.mk [(k0, a0), (k1, a1), (k2, a2)] l o) else some (e, St.mk [(k0, b0), (k1, b1), (k2, b2)] l o)) = some (e, St.mk [(k0, if p then a0 else b0), (k1, if p then a1 else b1), (k2, if p then a2 else b2)] l o) := by split <;> rfl
@[simp] theorem merge4 (e : EX) (k0 k1 k2 k3 : Nat) (a0 a1 a2 a3 b0 b1 b2 b3 : PV) (l o) : (if p then some (e, St.mk [(k0, a0), (k1, a1), (k2, a2), (k3, a3)] l o) else some (e, St.mk [(k0, b0), (k1, b1), (k2, b2), (k3, b3)] l o)) = some (e, St.mk [(k0, if p then a0 else b0), (k1, if p then a1 else b1), (k2, if p then a2 else b2), (k3, if p then a3 else b3)] l o) := by split <;> rfl
@[simp] theorem merge5 (e : EX) (k0 k1 k2 k3 k4 : Nat) (a0 a1 a2 a3 a4 b0 b1 b2 b3 b4 : PV) (l o) : (if p then some (e, St.mk [(k0, a0), (k1, a1), (k2, a2), (k3, a3), (k4, a4)] l o) else some (e, St.mk [(k0, b0), (k1, b1), (k2, b2), (k3, b3), (k4, b4)] l o)) = some (e, St.mk [(k0, if p then a0 else b0), (k1, if p then a1 else b1), (k2, if p then a2 else b2), (k3, if p then a3 else b3), (k4, if p then a4 else b4)] l o) := by split <;> rfl
@[simp] theorem merge6 (e : EX) (k0 k1 k2 k3 k4 k5 : Nat) (a0 a1 a2 a3 a4 a5 b0 b1 b2 b3 b4 b5 : PV) (l o) : (if p then some (e, St.mk [(k0, a0), (k1, a1), (k2, a2), (k3, a3), (k4, a4), (k5, a5)] l o) else some (e, St.mk [(k0, b0), (k1, b1), (k2, b2), (k3, b3), (k4, b4), (k5, b5)] l o)) = some (e, St.mk [(k0, if p then a0 else b0), (k1, if p then a1 else b1), (k2, if p then a2 else b2), (k3, if p then a3 else b3), (k4, if p then a4 else b4), (k5, if p then a5 else b5)] l o) := by split <;> rfl
@[simp] theorem merge7 (e : EX) (k0 k1 k2 k3 k4 k5 k6 : Nat) (a0 a1 a2 a3 a4 a5 a6 b0 b1 b2 b3 b4 b5 b6 : PV) (l o) : (if p then some (e, St.mk [(k0, a0), (k1, a1), (k2, a2), (k3, a3), (k4, a4), (k5, a5), (k6, a6)] l o) else some (e, St.mk [(k0, b0), (k1, b1), (k2, b2), (k3, b3), (k4, b4), (k5, b5), (k6, b6)] l o)) = some (e, St.mk [(k0, if p then a0 else b0), (k1, if p then a1 else b1), (k2, if p then a2 else b2), (k3, if p then a3 else b3), (k4, if p then a4 else b4), (k5, if p then a5 else b5), (k6, if p then a6 else b6)] l o) := by split <;> rfl
@[simp] theorem merge8 (e : EX) (k0 k1 k2 k3 k4 k5 k6 k7 : Nat) (a0 a1 a2 a3 a4 a5 a6 a7 b0 b1 b2 b3 b4 b5 b6 b7 : PV) (l o) : (if p then some (e, St.mk [(k0, a0), (k1, a1), (k2, a2), (k3, a3), (k4, a4), (k5, a5), (k6, a6), (k7, a7)] l o) else some (e, St.mk [(k0, b0), (k1, b1), (k2, b2), (k3, b3), (k4, b4), (k5, b5), (k6, b6), (k7, b7)] l o)) = some (e, St.mk [(k0, if p then a0 else b0), (k1, if p then a1 else b1), (k2, if p then a2 else b2), (k3, if p then a3 else b3), (k4, if p then a4 else b4), (k5, if p then a5 else b5), (k6, if p then a6 else b6), (k7, if p then a7 else b7)] l o) := by split <;> rfl
@[simp] theorem merge9 (e : EX) (k0 k1 k2 k3 k4 k5 k6 k7 k8 : Nat) (a0 a1 a2 a3 a4 a5 a6 a7 a8 b0 b1 b2 b3 b4 b5 b6 b7 b8 : PV) (l o) : (if p then some (e, St.mk [(k0, a0), (k1, a1), (k2, a2), (k3, a3), (k4, a4), (k5, a5), (k6, a6), (k7, a7), (k8, a8)] l o) else some (e, St.mk [(k0, b0), (k1, b1), (k2, b2), (k3, b3), (k4, b4), (k5, b5), (k6, b6), (k7, b7), (k8, b8)] l o)) = some (e, St.mk [(k0, if p then a0 else b0), (k1, if p then a1 else b1), (k2, if p then a2 else b2), (k3, if p then a3 else b3), (k4, if p then a4 else b4), (k5, if p then a5 else b5), (k6, if p then a6 else b6), (k7, if p then a7 else b7), (k8, if p then a8 else b8)] l o) := by split <;> rfl
@[simp] theorem merge10 (e : EX) (k0 k1 k2 k3 k4 k5 k6 k7 k8 k9 : Nat) (a0 a1 a2 a3 a4 a5 a6 a7 a8 a9 b0 b1 b2 b3 b4 b5 b6 b7 b8 b9 : PV) (l o) : (if p then some (e, St.mk [(k0, a0), (k1, a1), (k2, a2), (k3, a3), (k4, a4), (k5, a5), (k6, a6), (k7, a7), (k8, a8), (k9, a9)] l o) else some (e, St.mk [(k0, b0), (k1, b1), (k2, b2), (k3, b3), (k4, b4), (k5, b5), (k6, b6), (k7, b7), (k8, b8), (k9, b9)] l o)) = some (e, St.mk [(k0, if p then a0 else b0), (k1, if p then a1 else b1), (k2, if p then a2 else b2), (k3, if p then a3 else b3), (k4, if p then a4 else b4), (k5, if p then a5 else b5), (k6, if p then a6 else b6), (k7, if p then a7 else b7), (k8, if p then a8 else b8), (k9, if p then a9 else b9)] l o) := by split <;> rfl
@[simp] theorem merge11 (e : EX) (k0 k1 k2 k3 k4 k5 k6 k7 k8 k9 k10 : Nat) (a0 a1 a2 a3 a4 a5 a6 a7 a8 a9 a10 b0 b1 b2 b3 b4 b5 b6 b7 b8 b9 b10 : PV) (l o) : (if p then some (e, St.mk [(k0, a0), (k1, a1), (k2, a2), (k3, a3), (k4, a4), (k5, a5), (k6, a6), (k7, a7), (k8, a8), (k9, a9), (k10, a10)] l o) else some (e, St.mk [(k0, b0), (k1, b1), (k2, b2), (k3, b3), (k4, b4), (k5, b5), (k6, b6), (k7, b7), (k8, b8), (k9, b9), (k10, b10)] l o)) = some (e, St.mk [(k0, if p then a0 else b0), (k1, if p then a1 else b1), (k2, if p then a2 else b2), (k3, if p then a3 else b3), (k4, if p then a4 else b4), (k5, if p then a5 else b5), (k6, if p then a6 else b6), (k7, if p then a7 else b7), (k8, if p then a8 else b8), (k9, if p then a9 else b9), (k10, if p then a10 else b10)] l o) := by split <;> rfl
@[simp] theorem merge12 (e : EX) (k0 k1 k2 k3 k4 k5 k6 k7 k8 k9 k10 k11 : Nat) (a0 a1 a2 a3 a4 a5 a6 a7 a8 a9 a10 a11 b0 b1 b2 b3 b4 b5 b6 b7 b8 b9 b10 b11 : PV) (l o) : (if p then some (e, St.mk [(k0, a0), (k1, a1), (k2, a2), (k3, a3), (k4, a4), (k5, a5), (k6, a6), (k7, a7), (k8, a8), (k9, a9), (k10, a10), (k11, a11)] l o) else some (e, St.mk [(k0, b0), (k1, b1), (k2, b2), (k3, b3), (k4, b4), (k5, b5), (k6, b6), (k7, b7), (k8, b8), (k9, b9), (k10, b10), (k11, b11)] l o)) = some (e, St.mk [(k0, if p then a0 else b0), (k1, if p then a1 else b1), (k2, if p then a2 else b2), (k3, if p then a3 else b3), (k4, if p then a4 else b4), (k5, if p then a5 else b5), (k6, if p then a6 else b6), (k7, if p then a7 else b7), (k8, if p then a8 else b8), (k9, if p then a9 else b9), (k10, if p then a10 else b10), (k11, if p then a11 else b11)] l o) := by split <;> rfl
@[simp] theorem merge13 (e : EX) (k0 k1 k2 k3 k4 k5 k6 k7 k8 k9 k10 k11 k12 : Nat) (a0 a1 a2 a3 a4 a5 a6 a7 a8 a9 a10 a11 a12 b0 b1 b2 b3 b4 b5 b6 b7 b8 b9 b10 b11 b12 : PV) (l o) : (if p then some (e, St.mk [(k0, a0), (k1, a1), (k2, a2), (k3, a3), (k4, a4), (k5, a5), (k6, a6), (k7, a7), (k8, a8), (k9, a9), (k10, a10), (k11, a11), (k12, a12)] l o) else some (e, St.mk [(k0, b0), (k1, b1), (k2, b2), (k3, b3), (k4, b4), (k5, b5), (k6, b6), (k7, b7), (k8, b8), (k9, b9), (k10, b10), (k11, b11), (k12, b12)] l o)) = some (e, St.mk [(k0, if p then a0 else b0), (k1, if p then a1 else b1), (k2, if p then a2 else b2), (k3, if p then a3 else b3), (k4, if p then a4 else b4), (k5, if p then a5 else b5), (k6, if p then a6 else b6), (k7, if p then a7 else b7), (k8, if p then a8 else b8), (k9, if p then a9 else b9), (k10, if p then a10 else b10), (k11, if p then a11 else b11), (k12, if p then a12 else b12)] l o) := by split <;> rfl
@[simp] theorem merge14 (e : EX) (k0 k1 k2 k3 k4 k5 k6 k7 k8 k9 k10 k11 k12 k13 : Nat) (a0 a1 a2 a3 a4 a5 a6 a7 a8 a9 a10 a11 a12 a13 b0 b1 b2 b3 b4 b5 b6 b7 b8 b9 b10 b11 b12 b13 : PV) (l o) : (if p then some (e, St.mk [(k0, a0), (k1, a1), (k2, a2), (k3, a3), (k4, a4), (k5, a5), (k6, a6), (k7, a7), (k8, a8), (k9, a9), (k10, a10), (k11, a11), (k12, a12), (k13, a13)] l o) else some (e, St.mk [(k0, b0), (k1, b1), (k2, b2), (k3, b3), (k4, b4), (k5, b5), (k6, b6), (k7, b7), (k8, b8), (k9, b9), (k10, b10), (k11, b11), (k12, b12), (k13, b13)] l o)) = some (e, St.mk [(k0, if p then a0 else b0), (k1, if p then a1 else b1), (k2, if p then a2 else b2), (k3, if p then a3 else b3), (k4, if p then a4 else b4), (k5, if p then a5 else b5), (k6, if p then a6 else b6), (k7, if p then a7 else b7), (k8, if p then a8 else b8), (k9, if p then a9 else b9), (k10, if p then a10 else b10), (k11, if p then a11 else b11), (k12, if p then a12 else b12), (k13, if p then a13 else b13)] l o) := by split <;> rfl
@[simp] theorem ifb (a b : Bool) : (if p then PV.sc (.bool a) else PV.sc (.bool b)) = PV.sc (.bool (if p then a else b)) := by split <;> rfl
@[simp] theorem ifn (k : IntKind) (a b : Int) : (if p then PV.sc (.int k a) else PV.sc (.int k b)) = PV.sc (.int k (if p then a else b)) := by split <;> rfl
noncomputable def bodyK (res : List RV) : Option (EX × St) → Option (PV × Stack)
  | some (.ret, s) => finish res s
  | some (.normal, s) => finish res s
  | _ => none
@[simp] theorem bodyK_r (res) (s : St) : bodyK res (some (.ret, s)) = finish res s := rfl
@[simp] theorem bodyK_n (res) (s : St) : bodyK res (some (.normal, s)) = finish res s := rfl
@[simp] theorem bodyK_o (res) : bodyK res none = none := rfl
@[simp] theorem bodyK_i (res) (x y) : bodyK res (if p then x else y) = if p then bodyK res x else bodyK res y := by split <;> rfl
theorem body1_eq {G : Prog} {f : Nat} {af : AF} (args o) (hp : G.prim f = none) (hc : G.code f = some af) : body1 G call lp f args o = bodyK af.res (run call lp af.body ⟨pars 0 args, [], o⟩) := by
  simp only [body1, hp, hc]
  rcases run call lp af.body ⟨pars 0 args, [], o⟩ with _ | ⟨e, s⟩
  · rfl
  · cases e <;> rfl
noncomputable def loopK (lp : List Nat → List Nat → AC → St → Option (EX × St)) (lv ob : List Nat) (a : AC) : Option (EX × St) → Option (EX × St)
  | some (.normal, s') => lp lv ob a s'
  | r => r
@[simp] theorem loopK_n (lv ob a) (s : St) : loopK lp lv ob a (some (.normal, s)) = lp lv ob a s := rfl
@[simp] theorem loopK_r (lv ob a) (s : St) : loopK lp lv ob a (some (.ret, s)) = some (.ret, s) := rfl
@[simp] theorem loopK_e (lv ob a n) (s : St) : loopK lp lv ob a (some (.exit n, s)) = some (.exit n, s) := rfl
@[simp] theorem loopK_o (lv ob a) : loopK lp lv ob a none = none := rfl
@[simp] theorem loopK_i (lv ob a) (x y) : loopK lp lv ob a (if p then x else y) = if p then loopK lp lv ob a x else loopK lp lv ob a y := by split <;> rfl
noncomputable def loop0 (call : CallF) (lp : List Nat → List Nat → AC → St → Option (EX × St)) (lv ob : List Nat) (a : AC) : Option (EX × St) → Option (EX × St)
  | some (_, s0) => loopK lp lv ob a (run call lp a s0)
  | none => none
@[simp] theorem loop0_s (lv ob a e) (s : St) : loop0 call lp lv ob a (some (e, s)) = loopK lp lv ob a (run call lp a s) := rfl
@[simp] theorem loop1_k (lv ob a) (s : St) : loop1 call lp lv ob a s = loop0 call lp lv ob a (fin (s.keep lv ob)) := by
  simp only [loop1]
  rcases fin (s.keep lv ob) with _ | ⟨e, s0⟩
  · rfl
  · simp only [loop0]
    rcases run call lp a s0 with _ | ⟨e, s'⟩
    · rfl
    · cases e <;> rfl
end
attribute [simp] peekOK nestStep nestCall isSc
attribute [simp] pars St.ev getR St.put St.get St.sets St.set setO getO fin St.keep okObjs known knowns finish resVs resV single expo expoE expoEs expos expoC expo1 nodupI stepCall snapA snapE snap snaps rowIdA rowIdE rowId rowIds callBy noRef noRefs atLvl atLvls land impo impoE impoEs impos impo1 freshAll nodupId frzs thaws noShare noShares takeC OB.elem PV.cells sure cellP plain plains OB.isBox upTo upTos putC packE packEs pack1 packs live ib fal fals srcOf
end Go.Am
end
section
/- What a row's argument reads as. -/
set_option linter.unusedSimpArgs false
set_option linter.unusedVariables false
namespace Go.Am
open Go.RowKit
/-- The context in which everything that is there is frozen. -/
def cAll (w : World) : Ctx := ⟨hp w, fun _ => ⟨0, none, 0⟩, fun _ => none⟩
theorem cAll_ok (w : World) : StOK (cAll w) (gt []) (hp w) (fun _ => []) := by
  have hg : ∀ id ob, gt [] id = some ob → False := fun id ob h => by rw [gt_nil] at h; cases h
  refine ⟨fun id ob h => (hg id ob h).elim, fun id ob h => (hg id ob h).elim, fun id id' ob ob' h => (hg id ob h).elim, fun id ob h => (hg id ob h).elim, ?_, fun _ _ _ => rfl⟩
  rintro b o (h | h)
  · exact h
  · cases h
def isAg (P : Program) (t : TypeId) : Bool := match P.underlying t with | some (.struct _) | some (.array _ _) => true | _ => false
def mkE (P : Program) (e : TypeId) (cs : List PV) : PV := if isAg P e then .agg cs else cs.headD .undef
def TyF (r : TypeId → List PV → Prop) : List Field → List PV → Prop
  | [], xs => xs = []
  | f :: fs, xs => ∃ a b, xs = a ++ b ∧ r f.type a ∧ TyF r fs b
/-- Cells of a type. -/
def Ty (P : Program) : Nat → TypeId → List PV → Prop
  | 0, _, _ => False
  | n + 1, t, xs => match P.underlying t with
    | some .bool => ∃ b, xs = [.b b]
    | some (.int k) => ∃ m, xs = [.sc (.int k m)] ∧ (Lit.int k m).wf = true
    | some .string => ∃ s : ByteArray, xs = [.s s] ∧ s.size ≤ maxLen
    | some (.slice e) => ∃ css : List (List PV), xs = [.sl false (P.cellsOf e) (css.map (mkE P e))] ∧ css.length ≤ maxLen ∧ ∀ cs ∈ css, Ty P n e cs
    | some (.struct fs) => TyF (Ty P n) fs.toList xs
    | _ => False
def lay (P : Program) : Nat → List Field → Option Nat
  | o, [] => some o
  | o, f :: r => if f.offset = o then lay P (o + P.cellsOf f.type) r else none
/-- Types that data alone are made of. -/
def closedB (P : Program) (Ts : List TypeId) : Bool := Ts.all fun t => match P.underlying t with
  | some .bool | some (.int _) | some .string => P.cellsOf t == 1
  | some (.slice e) => P.cellsOf t == 1 && Ts.contains e && decide (0 < P.cellsOf e)
  | some (.struct fs) => lay P 0 fs.toList == some (P.cellsOf t) && fs.toList.all (fun f => Ts.contains f.type)
  | _ => false
section
variable {P : Program} {H : Type} {enc : TypeId × Value → H} {w : World}
theorem mapM_range {α : Type} {f : Nat → Option α} : ∀ {n o : Nat} {xs : List α}, (List.range' o n).mapM f = some xs → xs.length = n ∧ ∀ i, i < n → ∃ x, xs[i]? = some x ∧ f (o + i) = some x
  | 0, o, xs, h => by
    simp at h
    subst h
    exact ⟨rfl, fun i hi => by omega⟩
  | n + 1, o, xs, h => by
    simp only [List.range'_succ, List.mapM_cons, Option.pure_def, Option.bind_eq_bind] at h
    obtain ⟨x, h1, h2⟩ := Option.bind_eq_some_iff.1 h
    obtain ⟨ys, h3, h4⟩ := Option.bind_eq_some_iff.1 h2
    simp only [Option.some.injEq] at h4
    subst h4
    obtain ⟨h5, h6⟩ := mapM_range h3
    refine ⟨by simp [h5], fun i hi => ?_⟩
    cases i with
    | zero => exact ⟨x, by simp, by simpa using h1⟩
    | succ i =>
      obtain ⟨y, h7, h8⟩ := h6 i (by omega)
      exact ⟨y, by simpa using h7, by rw [← h8]; congr 1; omega⟩
theorem mkE_R {c : Ctx} {S : Sto} {h : Hp} {e : TypeId} {xs : List PV} {vs : List Value} (hl : isAg P e = true ∨ xs.length = 1) (hc : xs.all cellP = true) (r : Rs c S h xs vs []) :
    R c S h (mkE P e xs) vs [] ∧ (mkE P e xs).cells = xs ∧ flatE (mkE P e xs) = true ∧ tree (mkE P e xs) = trees xs := by
  unfold mkE
  by_cases ha : isAg P e = true
  · rw [if_pos ha]
    exact ⟨⟨hc, r⟩, rfl, by simpa [flatE] using hc, rfl⟩
  · rw [if_neg ha]
    have hl := hl.resolve_left ha
    obtain ⟨x, rfl⟩ : ∃ x, xs = [x] := by
      cases xs with
      | nil => simp at hl
      | cons x l => cases l with | nil => exact ⟨x, rfl⟩ | cons _ _ => simp at hl
    obtain ⟨v1, v2, f1, f2, rfl, hf, r1, r2⟩ := r
    simp only [Rs] at r2
    obtain ⟨rfl, rfl⟩ := r2
    simp only [List.append_nil] at hf
    subst hf
    simp only [List.headD_cons, List.append_nil]
    simp only [List.all_cons, List.all_nil, Bool.and_true] at hc
    refine ⟨r1, ?_, ?_, ?_⟩ <;> cases x <;> simp [cellP, flatE, PV.cells, trees] at hc ⊢
def RdOK (P : Program) (w : World) (n : Nat) (t : TypeId) (cs : List Value) (xs : List PV) : Prop := Ty P n t xs ∧ Rs (cAll w) (gt []) (hp w) xs cs [] ∧ xs.all cellP = true ∧ trees xs = true ∧ xs.length = P.cellsOf t
theorem addr_add (a : Addr) (m n : Nat) : (a.add m).add n = a.add (m + n) := by
  unfold Addr.add
  by_cases hm : m = 0 <;> by_cases hn : n = 0 <;> simp [hm, hn, Nat.add_assoc]
theorem read_elems {n : Nat} {e : TypeId} {a : Addr} {base : Nat} {q : List Value → Option (DataW H × List MemPlace)} (hel : isAg P e = true ∨ P.cellsOf e = 1) (ih : ∀ cs d ps, q cs = some (d, ps) → ∃ xs, RdOK P w n e cs xs) :
    ∀ {m o : Nat} {elems : List (DataW H × List MemPlace)}, (List.range' o m).mapM (fun i => (w.cells? base (a.add (i * P.cellsOf e)) (P.cellsOf e)).bind q) = some elems →
      ∃ (css : List (List PV)) (ws : List Value), css.length = m ∧ (∀ c ∈ css, Ty P n e c ∧ c.length = P.cellsOf e ∧ flatE (mkE P e c) = true ∧ (mkE P e c).cells = c) ∧ Rs (cAll w) (gt []) (hp w) (css.map (mkE P e)) ws [] ∧ trees (css.map (mkE P e)) = true ∧ ws.length = m * P.cellsOf e ∧
        ∀ j u, ws[j]? = some u → w.cell? (a.add (o * P.cellsOf e + j)) = some u
  | 0, o, elems, h => ⟨[], [], rfl, fun c hc => (by cases hc), ⟨rfl, rfl⟩, rfl, by simp, fun j u hj => by simp at hj⟩
  | m + 1, o, elems, h => by
    simp only [List.range'_succ, List.mapM_cons, Option.pure_def, Option.bind_eq_bind] at h
    obtain ⟨x, h1, h2⟩ := Option.bind_eq_some_iff.1 h
    obtain ⟨ys, h3, h4⟩ := Option.bind_eq_some_iff.1 h2
    obtain ⟨cells, h5, h6⟩ := Option.bind_eq_some_iff.1 h1
    obtain ⟨d, ps⟩ := x
    obtain ⟨xs, g1, g2, g3, g4, g5⟩ := ih cells d ps h6
    obtain ⟨css, ws, k1, k2, k3, k4, k5, k6⟩ := read_elems hel ih h3
    have hel' : isAg P e = true ∨ xs.length = 1 := hel.imp (fun h => h) (fun h => by rw [g5, h])
    obtain ⟨e1, e2, e3, e4⟩ := mkE_R (P := P) (e := e) hel' g3 g2
    have hcl : cells.length = P.cellsOf e := by rw [(Rs_cells_len g3 g2).1, g5]
    refine ⟨xs :: css, cells ++ ws, by simp [k1], fun c hc => ?_, ⟨cells, ws, [], [], rfl, rfl, e1, k3⟩, by simp [trees, e4, g4, k4], by simp [hcl, k5, Nat.add_mul]; omega, fun j u hj => ?_⟩
    · rcases List.mem_cons.1 hc with rfl | hc
      · exact ⟨g1, g5, e3, e2⟩
      · exact k2 c hc
    · by_cases hjc : j < cells.length
      · rw [List.getElem?_append_left hjc] at hj
        unfold World.cells? at h5
        split at h5
        · rw [List.range_eq_range'] at h5
          obtain ⟨_, h8⟩ := mapM_range h5
          obtain ⟨v, h9, h10⟩ := h8 j (by omega)
          rw [hj] at h9
          simp only [Option.some.injEq] at h9
          subst h9
          rw [addr_add, Nat.zero_add] at h10
          exact h10
        · cases h5
      · rw [List.getElem?_append_right (by omega)] at hj
        have := k6 _ _ hj
        rw [← this]
        congr 2
        rw [hcl, Nat.add_mul]
        omega
theorem read_fields {n : Nat} {cs : List Value} {tot : Nat} {q : TypeId → List Value → Option (DataW H × List MemPlace)} (htot : cs.length = tot) :
    ∀ {fl : List Field} {o : Nat} {ys : List (DataW H × List MemPlace)}, (∀ f ∈ fl, ∀ cs d ps, q f.type cs = some (d, ps) → ∃ xs, RdOK P w n f.type cs xs) → lay P o fl = some tot → fl.mapM (fun f => q f.type ((cs.drop f.offset).take (P.cellsOf f.type))) = some ys →
      ∃ xs, TyF (Ty P n) fl xs ∧ Rs (cAll w) (gt []) (hp w) xs (cs.drop o) [] ∧ xs.all cellP = true ∧ trees xs = true ∧ xs.length + o = tot
  | [], o, ys, _, hl, h => by
    simp only [lay, Option.some.injEq] at hl
    subst hl
    exact ⟨[], rfl, ⟨List.drop_eq_nil_of_le (by omega), rfl⟩, rfl, rfl, by simp⟩
  | f :: fl, o, ys, ih, hl, h => by
    simp only [lay] at hl
    split at hl
    · rename_i ho
      simp only [List.mapM_cons, Option.pure_def, Option.bind_eq_bind] at h
      obtain ⟨x, h1, h2⟩ := Option.bind_eq_some_iff.1 h
      obtain ⟨zs, h3, h4⟩ := Option.bind_eq_some_iff.1 h2
      obtain ⟨d, ps⟩ := x
      rw [ho] at h1
      obtain ⟨xs, g1, g2, g3, g4, g5⟩ := ih f List.mem_cons_self _ d ps h1
      obtain ⟨xs2, k1, k2, k3, k4, k5⟩ := read_fields htot (fun f hf => ih f (List.mem_cons_of_mem _ hf)) hl h3
      refine ⟨xs ++ xs2, ⟨xs, xs2, rfl, g1, k1⟩, ?_, by simp [g3, k3], trees_append g4 k4, by simp [g5]; omega⟩
      rw [Rs_append]
      refine ⟨(cs.drop o).take (P.cellsOf f.type), cs.drop (o + P.cellsOf f.type), [], [], ?_, rfl, g2, k2⟩
      rw [← List.drop_drop, List.take_append_drop]
    · cases hl
/-- What reads as data of a plain type stands there as a tree. -/
theorem read {Ts : List TypeId} (hc : closedB P Ts = true) {base : Nat} {sp : Nat → Bool} {held : Bool} : ∀ (fuel : Nat) (t : TypeId) (cs : List Value) (d : DataW H) (ps : List MemPlace), t ∈ Ts → DataW.trod enc P w base sp held fuel t cs = some (d, ps) → ∃ xs, RdOK P w fuel t cs xs
  | 0, _, _, _, _, _, h => by simp [DataW.trod] at h
  | fuel + 1, t, cs, d, ps, ht, h => by
    have hcl := List.all_eq_true.1 hc t ht
    cases hu : P.underlying t with
    | none => rw [hu] at hcl; cases hcl
    | some ud =>
      rw [hu] at hcl
      cases ud <;> simp only at hcl <;> try (cases hcl; done)
      case bool =>
        have hc1 := eq_of_beq hcl
        rcases cs with _ | ⟨v, _ | ⟨u, r⟩⟩
        · simp [DataW.trod, hu] at h
        · cases v <;> simp [DataW.trod, hu] at h
          rename_i b
          exact ⟨[.b b], by simp only [Ty, hu]; exact ⟨_, rfl⟩, ⟨[_], [], [], [], rfl, rfl, ⟨rfl, rfl, rfl⟩, rfl, rfl⟩, rfl, rfl, by simp [hc1]⟩
        · simp [DataW.trod, hu] at h
      case int k =>
        have hc1 := eq_of_beq hcl
        rcases cs with _ | ⟨v, _ | ⟨u, r⟩⟩
        · simp [DataW.trod, hu] at h
        · cases v <;> simp [DataW.trod, hu] at h
          rename_i k' m
          obtain ⟨⟨rfl, hw⟩, _⟩ := h
          exact ⟨[.sc (.int _ m)], by simp only [Ty, hu]; exact ⟨_, rfl, hw⟩, ⟨[_], [], [], [], rfl, rfl, ⟨rfl, rfl, rfl⟩, rfl, rfl⟩, rfl, rfl, by simp [hc1]⟩
        · simp [DataW.trod, hu] at h
      case string =>
        have hc1 := eq_of_beq hcl
        rcases cs with _ | ⟨v, _ | ⟨u, r⟩⟩
        · simp [DataW.trod, hu] at h
        · cases v <;> simp [DataW.trod, hu] at h
          rename_i b
          exact ⟨[.s b], by simp only [Ty, hu]; exact ⟨_, rfl, h.1⟩, ⟨[_], [], [], [], rfl, rfl, ⟨rfl, rfl, rfl⟩, rfl, rfl⟩, rfl, rfl, by simp [hc1]⟩
        · simp [DataW.trod, hu] at h
      case slice e =>
        simp only [Bool.and_eq_true, decide_eq_true_eq] at hcl
        obtain ⟨⟨hc1, hc2⟩, hc3⟩ := hcl
        have hc1 := eq_of_beq hc1
        have he : e ∈ Ts := by simpa using hc2
        have hel : isAg P e = true ∨ P.cellsOf e = 1 := by
          have := List.all_eq_true.1 hc e he
          unfold isAg
          cases hue : P.underlying e with
          | none => rw [hue] at this; cases this
          | some ue => cases ue <;> rw [hue] at this <;> simp only at this <;> first | (cases this; done) | exact .inl rfl | exact .inr (eq_of_beq this) | (simp only [Bool.and_eq_true] at this; exact .inr (eq_of_beq this.1.1))
        have isel : (∃ v, cs = [v]) ∨ ∀ v, cs ≠ [v] := by
          by_cases h : ∃ v, cs = [v]
          · exact .inl h
          · exact .inr fun v hv => h ⟨v, hv⟩
        rcases cs with _ | ⟨v, _ | ⟨u, r⟩⟩
        · simp [DataW.trod, hu] at h
        · cases v <;> try (simp [DataW.trod, hu] at h; done)
          rename_i A len cap
          have empty : len = 0 → cap = 0 ∨ True → ∃ xs, RdOK P w (fuel + 1) t [.slice A len cap] xs := by
            rintro rfl _
            refine ⟨[.sl false (P.cellsOf e) []], by simp only [Ty, hu]; exact ⟨[], rfl, Nat.zero_le _, fun c hc => (by cases hc)⟩, ⟨[_], [], [], [], rfl, rfl, ⟨rfl, fun x hx => (by cases hx), rfl, A, cap, rfl, .inl rfl⟩, rfl, rfl⟩, rfl, rfl, by simp [hc1]⟩
          by_cases hl0 : len = 0
          · exact empty hl0 (.inr trivial)
          · cases A with
            | none =>
              exfalso
              cases len with
              | zero => exact hl0 rfl
              | succ m => simp [DataW.trod, hu] at h
            | some a =>
              have h' : len ≤ cap ∧ cap ≤ maxLen ∧ ∃ elems, (List.range len).mapM (fun i => (w.cells? base (a.add (i * P.cellsOf e)) (P.cellsOf e)).bind (DataW.trod enc P w base sp held fuel e)) = some elems := by
                simp only [DataW.trod, hu] at h
                split at h
                · rename_i hb
                  obtain ⟨elems, h1, _⟩ := Option.bind_eq_some_iff.1 h
                  exact ⟨hb.2.1, hb.2.2, elems, h1⟩
                · cases h
              obtain ⟨h1, h2, elems, h3⟩ := h'
              rw [List.range_eq_range'] at h3
              obtain ⟨css, ws, k1, k2, k3, k4, k5, k6⟩ := read_elems (n := fuel) hel (fun cs d ps hq => read hc fuel e cs d ps he hq) h3
              simp only [Nat.zero_mul, Nat.zero_add] at k6
              -- the block
              have hpos : 0 < ws.length := by rw [k5]; exact Nat.mul_pos (by omega) hc3
              have hc0 := k6 0 ws[0] (List.getElem?_eq_getElem hpos)
              have hblk : ∃ cur et fr, hp w a.block = some (.cells cur et fr) ∧ a.spot = none := by
                have ha0 : a.add 0 = a := by simp [Addr.add]
                rw [ha0] at hc0
                unfold World.cell? at hc0
                split at hc0
                · rename_i cur et fr hh
                  split at hc0
                  · cases hc0
                  · rename_i hsp
                    exact ⟨cur, et, fr, hh, by simpa using hsp⟩
                · cases hc0
              obtain ⟨cur, et, fr, hb, hsp⟩ := hblk
              have hcells : ∀ j u, ws[j]? = some u → cur.toList[a.off + j]? = some u := by
                intro j u hj
                have := k6 j u hj
                have hadd : a.add j = ⟨a.block, a.off + j, none⟩ := by
                  unfold Addr.add
                  split
                  · rename_i h0; subst h0; cases a; simp_all
                  · rfl
                rw [hadd, cell_of_block hb] at this
                simpa using this
              have htake : (cur.toList.drop a.off).take (css.length * P.cellsOf e) = ws := by
                apply List.ext_getElem?
                intro j
                rw [List.getElem?_take]
                by_cases hj : j < css.length * P.cellsOf e
                · rw [if_pos hj, List.getElem?_drop]
                  have hj2 : j < ws.length := by rw [k5, ← k1]; exact hj
                  rw [hcells j ws[j] (List.getElem?_eq_getElem hj2), List.getElem?_eq_getElem hj2]
                · rw [if_neg hj, List.getElem?_eq_none (by rw [k5, ← k1]; omega)]
              refine ⟨[.sl false (P.cellsOf e) (css.map (mkE P e))], by simp only [Ty, hu]; exact ⟨css, rfl, by omega, fun c hc => (k2 c hc).1⟩, ⟨[_], [], [], [], rfl, rfl, ⟨k4, fun x hx => ?_, rfl, some a, cap, by simp [k1], .inr ⟨a.block, a.off, cur, et, fr, ws, ?_, by rw [List.length_map, k1]; exact h1, hb, k3, ?_⟩⟩, rfl, rfl⟩, rfl, by simpa [trees, tree] using k4, by simp [hc1]⟩
              · obtain ⟨c, hcm, rfl⟩ := List.mem_map.1 hx
                obtain ⟨q1, q2, q3, q4⟩ := k2 c hcm
                exact ⟨by rw [q4, q2], q3⟩
              · cases a; simp_all
              · rw [List.length_map]; exact htake
        · simp [DataW.trod, hu] at h
      case struct fs =>
        simp only [Bool.and_eq_true] at hcl
        obtain ⟨hc1, hc2⟩ := hcl
        have hc1 := eq_of_beq hc1
        have h' : cs.length = P.cellsOf t ∧ ∃ ys, fs.toList.mapM (fun f => DataW.trod enc P w base sp held fuel f.type ((cs.drop f.offset).take (P.cellsOf f.type))) = some ys := by
          have h2 : DataW.trod enc P w base sp held (fuel + 1) t cs = (if cs.length = P.cellsOf t then (fs.toList.mapM fun f => DataW.trod enc P w base sp held fuel f.type ((cs.drop f.offset).take (P.cellsOf f.type))).map fun xs => (.agg (xs.map (·.1)), xs.flatMap (·.2)) else none) := by
            simp only [DataW.trod, hu]
          rw [h2] at h
          split at h
          · rename_i hl
            obtain ⟨ys, h3, _⟩ := Option.map_eq_some_iff.1 h
            exact ⟨hl, ys, h3⟩
          · cases h
        obtain ⟨hl, ys, h3⟩ := h'
        obtain ⟨xs, k1, k2, k3, k4, k5⟩ := read_fields (n := fuel) (q := DataW.trod enc P w base sp held fuel) hl (fun f hf cs d ps hq => read hc fuel f.type cs d ps (by have := List.all_eq_true.1 hc2 f hf; simpa using this) hq) hc1 h3
        exact ⟨xs, by simp only [Ty, hu]; exact k1, by simpa using k2, k3, k4, by simpa using k5⟩
end
end Go.Am
end
section
/- A law that the machine finds true holds. -/
set_option linter.unusedSimpArgs false
set_option linter.unusedVariables false
namespace Go.Am
open Go.RowKit
theorem keptBut_same {W W' : World} (ho : W'.os = W.os) (hu : W'.output = W.output) (hb : ∀ b o, hp W b = some o → hp W' b = some o) (may : MemPlace → Prop) : W.keptBut W' may := by
  refine ⟨ho, hu, fun i hi => ?_⟩
  have h1 : W.heap[i]? = some W.heap[i] := Array.getElem?_eq_getElem hi
  have h2 := hb i _ h1
  simp only [hp] at h2
  rw [h1, h2]
  cases W.heap[i] <;> simp
theorem sameAt_of {W W' : World} (hb : ∀ b o, hp W b = some o → hp W' b = some o) {p : MemPlace} (hlt : p.block < W.heap.size) : W.sameAt W' p := by
  have h1 : W.heap[p.block]? = some W.heap[p.block] := Array.getElem?_eq_getElem hlt
  have h2 := hb p.block _ h1
  simp only [hp] at h2
  cases p with
  | cell b o => exact World.cell?_of_block (w := W) (h2.trans h1.symm)
  | map b => exact h2.trans h1.symm
/-- A row's end where nothing that was there has turned; of blocks laid since, nothing is asked. -/
theorem post_kept {H : Type} {enc : TypeId × Value → H} {P : Program} {f : Func} {s : ChangeSpec} {apart fresh handsOn again : Bool} {W W' : World} {args : Array Value} {v : Value} {ds gs : List (DataW H)} {before pa pv : List MemPlace}
    (hW : DataW.Whole enc P f.params.toList s.vars apart W args.toList ds gs before)
    (hres : ∀ (b : Nat) (sp : Nat → Bool) (hd : Bool), DataW.TrodAll enc P W' b sp hd f.resultTypes.toList (v.resultList f.resultTypes.size) (s.fn H (ds ++ gs)).results [])
    (hargs : ∀ sp : Nat → Bool, (∀ p ∈ before, sp p.block = true) → DataW.TrodAll enc P W' 0 sp true f.params.toList args.toList (s.fn H (ds ++ gs)).args pa)
    (hvars : ∀ sp : Nat → Bool, (∀ p ∈ before, sp p.block = true) → DataW.TrodVars enc P W' sp s.vars (s.fn H (ds ++ gs)).vars pv)
    (hps : before = pa ++ pv) (hk : W.keptBut W' (· ∈ before)) (hfz : ∀ a, a.block < W.heap.size → W'.frozen? a = W.frozen? a)
    (hok : ∀ (j : Nat) (t : TypeId) (r : Value), f.resultTypes[j]? = some t → (v.resultList f.resultTypes.size)[j]? = some r → Value.okWide P W' .any 0 t r) :
    s.post enc P f apart fresh handsOn again W args v W' := by
  subst hps
  have hold : ∀ p ∈ pa ++ pv, (fun b => decide (b < W.heap.size)) p.block = true := fun p hp => by simpa using hW.lt p hp
  have hlt := hW.lt
  obtain ⟨_, _, _, _, _, hz, hn⟩ := id hW
  refine ⟨ds, gs, pa ++ pv, [], pa, pv, hW, hres _ _ _, hargs _ hold, hvars _ hold, World.keptBut_mono (fun p hp => ⟨hp, .inr (List.mem_append.1 hp)⟩) hk, fun _ => ⟨hok, _, _, ([] ++ pa) ++ pv, ⟨[] ++ pa, pv, ChangeShapes.trodAll_append (hargs _ (fun _ _ => rfl)) (hres _ _ _), hvars _ (fun _ _ => rfl), rfl, fun b off hp => ?_, fun ha => by simpa using hn ha⟩, fun p hp _ => by simpa using hp⟩⟩
  have hp' : MemPlace.cell b off ∈ pa ++ pv := by simpa using hp
  rw [hfz _ (hlt _ hp')]
  exact hz b off hp'
/-- What the law's call comes to. -/
def TrueEnd (W : World) : Ending → World → Prop := fun e W' => e = .returned (.bool true) ∧ W'.os = W.os ∧ W'.output = W.output ∧ (∀ b o, hp W b = some o → hp W' b = some o) ∧ ∀ a, a.block < W.heap.size → W'.frozen? a = W.frozen? a
theorem law_calls {P : Program} {G : Prog} (pg : ProgOK P G) {f : Nat} {args : List PV} {vals : List Value} {W : World} {o' : Stack} (hr : RVals (cAll W) (gt []) (hp W) args vals) (e : callI G f args [] = some (.b true, o')) : Calls P f vals.toArray W (TrueEnd W) := by
  obtain ⟨_, h⟩ := sound pg e
  refine Calls.mono (h (cAll W) _ W vals (cAll_ok W) hr) ?_
  rintro e W' ⟨_, v, c', fp', f', rfl, hg, hok, ha, _, hret⟩
  have hv : v = .bool true := by
    have h : [v] = [Value.bool true] := hret.2.1
    simpa using h
  subst hv
  exact ⟨rfl, hg.os, hg.output, fun b o hb => hok.okF b o (.inl (ha.F b o hb)), hg.fz⟩
/-- An aggregate argument. -/
theorem read_agg {P : Program} {H : Type} {enc : TypeId × Value → H} {W : World} {Ts : List TypeId} (hc : closedB P Ts = true) {base : Nat} {sp : Nat → Bool} {held : Bool} {t : TypeId} {v : Value} {d : DataW H} {ps : List MemPlace} (ht : t ∈ Ts)
    (h : DataW.Trod enc P W base sp held t v d ps) : ∃ n xs, RdOK P W n t v.cells.toList xs := by
  obtain ⟨n, hn⟩ := h
  obtain ⟨xs, hx⟩ := read hc n t _ d ps ht hn
  exact ⟨n, xs, hx⟩
def isCell (P : Program) (t : TypeId) : Bool := match P.underlying t with | some .bool | some (.int _) | some .string | some (.slice _) => true | _ => false
/-- An argument of one cell. -/
theorem arg_cell {P : Program} {W : World} {base n : Nat} {t : TypeId} {v : Value} {xs : List PV} (hw : Value.okWide P W .any base t v) (ha : isCell P t = true) (hl : P.cellsOf t = 1) (hx : RdOK P W n t v.cells.toList xs) : ∃ x, xs = [x] ∧ RVal (cAll W) (gt []) (hp W) x v := by
  obtain ⟨_, h2, h3, _, h5⟩ := hx
  rw [hl] at h5
  obtain ⟨x, rfl⟩ := List.length_eq_one_iff.1 h5
  refine ⟨x, rfl, ?_⟩
  have hv : v.cells.toList = [v] := by
    unfold isCell at ha
    unfold Value.okWide at hw
    cases v <;> try rfl
    split at ha <;> rename_i hu <;> first | cases ha; done | (rw [hu] at hw; simp [Cell.okWide, Cell.ok, hu] at hw)
  rw [hv] at h2
  simp only [List.all_cons, List.all_nil, Bool.and_true] at h3
  obtain ⟨v1, v2, f1, f2, e1, e2, r, r2⟩ := h2
  obtain ⟨rfl, rfl⟩ := r2
  simp only [List.append_nil] at e1 e2
  subst e1
  rw [← e2] at r
  cases x <;> first | trivial | exact r | (simp [cellP] at h3)
theorem trod_bool {P : Program} {H : Type} {enc : TypeId × Value → H} {w : World} {base : Nat} {sp : Nat → Bool} {hd : Bool} {t : TypeId} (h : P.underlying t = some .bool) (b : Bool) : DataW.Trod enc P w base sp hd t (.bool b) (.lit (.bool b)) [] := ⟨1, by simp [DataW.trod, h, Value.cells]⟩
theorem okWide_bool' {P : Program} {w : World} {base : Nat} {t : TypeId} (h : P.underlying t = some .bool) (b : Bool) : Value.okWide P w .any base t (.bool b) := by
  simp [Value.okWide, h, Cell.okWide, Cell.ok]
end Go.Am
end
section
/- Objects of outer frames. -/
set_option linter.unusedSimpArgs false
set_option linter.unusedVariables false
namespace Go.Am
/-! #### objects of outer frames -/
def getS (o : Stack) (id : Id) : Option OB := (o[id.1]?).bind (getO · id.2)
def setS (o : Stack) (id : Id) (ob : OB) : Stack := o.modify id.1 (setO · id.2 ob)
theorem setS_len (o : Stack) (id : Id) (ob : OB) : (setS o id ob).length = o.length := by simp [setS]
theorem setO_setO (d : Nat) (a b : OB) : ∀ l : Objs, setO (setO l d a) d b = setO l d b
  | [] => by simp [setO]
  | (k, v) :: l => by
    by_cases h : k = d
    · simp [setO, h]
    · simp [setO, h, setO_setO d a b l]
theorem setS_setS (o : Stack) (id : Id) (a b : OB) : setS (setS o id a) id b = setS o id b := by
  unfold setS
  apply List.ext_getElem?
  intro i
  simp only [List.getElem?_modify]
  by_cases h : id.1 = i
  · subst h
    cases o[id.1]? with
    | none => simp
    | some l => simp [setO_setO]
  · simp [h]
theorem getS_setS {o : Stack} {id : Id} (h : id.1 < o.length) (a : OB) : getS (setS o id a) id = some a := by
  unfold getS setS
  rw [List.getElem?_modify, List.getElem?_eq_getElem h]
  simp [getO_setO]
theorem get_low {r l} {o : Stack} {id : Id} (h : id.1 < o.length) : St.get ⟨r, l, o⟩ id = getS o id := by
  have : ¬ id.1 = o.length := by omega
  simp [St.get, getS, this]
theorem set_low {r l} {o : Stack} {id : Id} {ob : OB} (h : id.1 < o.length) : St.set ⟨r, l, o⟩ id ob = ⟨r, l, setS o id ob⟩ := by
  have : ¬ id.1 = o.length := by omega
  simp [St.set, setS, this]
theorem setS_app (o : Stack) (l : Objs) (id : Id) (ob : OB) (hid : id.1 < o.length) : setS (o ++ [l]) id ob = setS o id ob ++ [l] := by
  unfold setS
  apply List.ext_getElem?
  intro i
  simp only [List.getElem?_modify]
  rcases Nat.lt_trichotomy i o.length with h | h | h
  · rw [List.getElem?_append_left h, List.getElem?_append_left (by simpa using h), List.getElem?_modify]
  · subst h
    have : ¬ id.1 = o.length := by omega
    simp [this]
  · rw [List.getElem?_eq_none (by simp; omega), List.getElem?_eq_none (by simp; omega)]
    have : ¬ id.1 = i := by omega
    simp [this]
end Go.Am
end
section
/- The decimal numeral of a small number, as a primitive function. -/
set_option linter.unusedSimpArgs false
set_option linter.unusedVariables false
namespace Go.Am
open Go.RowKit
def decS (n : Nat) : ByteArray := ⟨(Lib.decDigits n).toArray⟩
def itoaP : List PV → Stack → Option (PV × Stack)
  | [.sc (.int .i64 n)], o => if 0 ≤ n ∧ n < 100 then some (.s (decS n.toNat), o) else none
  | _, _ => none
theorem itoaP_good {P : Program} {f : Nat} (hg : isGo P f) (h : ∀ (i : Nat), i < 100 → ∀ w : World, Calls P f #[.int .i64 i] w fun e w' => e = .returned (.string ⟨(Lib.decDigits i).toArray⟩) ∧ w' = w)
    {args : List PV} {o o' : Stack} {r : PV} (e : itoaP args o = some (r, o')) : Good P f args o r o' := by
  unfold itoaP at e
  split at e
  · rename_i n
    split at e
    · rename_i hn
      simp only [Option.some.injEq, Prod.mk.injEq] at e
      obtain ⟨rfl, rfl⟩ := e
      refine ⟨hg, fun c fp w vals ok hr => ?_⟩
      obtain ⟨v, vs, rfl, hv, hvs⟩ := hr
      cases hvs
      have hv2 : v = .int .i64 n := by
        obtain ⟨_, hv⟩ := hv
        exact (List.cons.inj hv.1).1
      subst hv2
      have hni : (n.toNat : Int) = n := by omega
      have := h n.toNat (by omega) w
      rw [hni] at this
      refine this.mono fun e' w' he => ?_
      obtain ⟨rfl, rfl⟩ := he
      exact ⟨⟨rfl, fun id ob h => ⟨ob, h⟩⟩, _, c, fp, [], rfl, Grew.refl _, ok, Adv.refl _ _, Free.nil, rfl, rfl, rfl⟩
    · cases e
  · cases e
end Go.Am
end
section
/- What is nil, read as an empty slice: a function that is shown for the one is so for the other. -/
set_option linter.unusedSimpArgs false
set_option linter.unusedVariables false
namespace Go.Am
open Go.RowKit
mutual
def weak (k : Nat) : PV → PV
  | .nils => .sl false k []
  | .sl false j xs => .sl false j (weaks k xs)
  | .agg cs => .agg (weaks k cs)
  | x => x
def weaks (k : Nat) : List PV → List PV
  | [] => []
  | x :: xs => weak k x :: weaks k xs
end
theorem weaks_len (k : Nat) : ∀ xs, (weaks k xs).length = xs.length
  | [] => by simp [weaks]
  | x :: xs => by simp [weaks, weaks_len k xs]
theorem weak_cellP (k : Nat) (x : PV) : cellP (weak k x) = cellP x := by
  cases x with
  | sl u j xs => cases u <;> simp [weak, cellP]
  | _ => simp [weak, cellP]
theorem weaks_cellP (k : Nat) : ∀ xs, (weaks k xs).all cellP = xs.all cellP
  | [] => by simp [weaks]
  | x :: xs => by rw [weaks, List.all_cons, List.all_cons, weak_cellP, weaks_cellP k xs]
theorem weak_cells (k : Nat) (x : PV) : (weak k x).cells.length = x.cells.length := by
  cases x with
  | sl u j xs => cases u <;> simp [weak, PV.cells]
  | agg cs => simp [weak, PV.cells, weaks_len]
  | _ => simp [weak, PV.cells]
theorem weak_flatE (k : Nat) (x : PV) : flatE (weak k x) = flatE x := by
  cases x with
  | sl u j xs => cases u <;> simp [weak, flatE]
  | agg cs => simp only [weak, flatE, weaks_cellP]
  | _ => simp [weak, flatE]
theorem weaks_mem {k : Nat} : ∀ {xs : List PV} {y : PV}, y ∈ weaks k xs → ∃ x ∈ xs, y = weak k x
  | [], y, h => by simp [weaks] at h
  | x :: xs, y, h => by
    simp only [weaks, List.mem_cons] at h
    rcases h with h | h
    · exact ⟨x, List.mem_cons_self, h⟩
    · obtain ⟨z, hz, e⟩ := weaks_mem h
      exact ⟨z, List.mem_cons_of_mem _ hz, e⟩
theorem weaks_Ls {k j : Nat} {xs : List PV} (h : Ls j xs) : Ls j (weaks k xs) := fun y hy => by
  obtain ⟨x, hx, rfl⟩ := weaks_mem hy
  rw [weak_cells, weak_flatE]
  exact h x hx
mutual
theorem weak_tree (k : Nat) : ∀ x, tree x = true → tree (weak k x) = true
  | .nils, _ => rfl
  | .sl false j xs, h => by simp only [weak, tree] at h ⊢; exact weaks_trees k xs h
  | .sl true j xs, h => h
  | .agg cs, h => by simp only [weak, tree] at h ⊢; exact weaks_trees k cs h
  | .undef, h | .sc _, h => rfl
  | .own _ _, h | .ref _ _ _ _, h | .sub _ _ _, h | .iref _ _, h | .mp _, h | .clo _ _, h | .tup _, h | .bx _, h | .non, h => by simp [tree] at h
theorem weaks_trees (k : Nat) : ∀ xs, trees xs = true → trees (weaks k xs) = true
  | [], _ => rfl
  | x :: xs, h => by
    simp only [trees, weaks, Bool.and_eq_true] at h ⊢
    exact ⟨weak_tree k x h.1, weaks_trees k xs h.2⟩
end
section
variable {c : Ctx} {S : Sto} {h : Hp}
mutual
theorem R_weak (k : Nat) : ∀ (x : PV) (vs : List Value) (fp : List Nat), R c S h x vs fp → R c S h (weak k x) vs fp
  | .nils, vs, fp, r => by
    obtain ⟨hf, A, hv⟩ := r
    exact ⟨rfl, fun x hx => (by cases hx), hf, A, 0, hv, .inl rfl⟩
  | .sl false j xs, vs, fp, r => by
    obtain ⟨ht, hl, hf, A, cp, hv, ho⟩ := r
    refine ⟨weaks_trees k xs ht, weaks_Ls hl, hf, A, cp, by rw [weaks_len]; exact hv, ?_⟩
    rcases ho with rfl | ⟨g, off, cur, e, fr, ws, h1, h2, h3, h4, h5⟩
    · exact .inl rfl
    · exact .inr ⟨g, off, cur, e, fr, ws, h1, by rw [weaks_len]; exact h2, h3, Rs_weak k xs ws [] h4, by rw [weaks_len]; exact h5⟩
  | .agg cs, vs, fp, r => by
    obtain ⟨h1, h2⟩ := r
    exact ⟨by rw [weaks_cellP]; exact h1, Rs_weak k cs vs fp h2⟩
  | .sl true _ _, vs, fp, r | .undef, vs, fp, r | .sc _, vs, fp, r | .own _ _, vs, fp, r | .ref _ _ _ _, vs, fp, r | .sub _ _ _, vs, fp, r | .iref _ _, vs, fp, r | .mp _, vs, fp, r | .clo _ _, vs, fp, r | .tup _, vs, fp, r | .bx _, vs, fp, r | .non, vs, fp, r => r
theorem Rs_weak (k : Nat) : ∀ (xs : List PV) (vs : List Value) (fp : List Nat), Rs c S h xs vs fp → Rs c S h (weaks k xs) vs fp
  | [], vs, fp, r => r
  | x :: xs, vs, fp, r => by
    obtain ⟨v1, v2, f1, f2, h1, h2, h3, h4⟩ := r
    exact ⟨v1, v2, f1, f2, h1, h2, R_weak k x v1 f1 h3, Rs_weak k xs v2 f2 h4⟩
end
theorem RVal_weak (k : Nat) {x : PV} {v : Value} (r : RVal c S h x v) : RVal c S h (weak k x) v := by
  cases x with
  | nils => exact R_weak k .nils _ _ r
  | sl u j xs => cases u <;> exact R_weak k _ _ _ r
  | agg cs => obtain ⟨vs, e, r⟩ := r; exact ⟨vs, e, R_weak k _ _ _ r⟩
  | _ => exact r
end
end Go.Am
end
section
/- A function of a machine, as a primitive of another one that hands it what its arguments may also be read as. -/
set_option linter.unusedSimpArgs false
set_option linter.unusedVariables false
namespace Go.Am
open Go.RowKit
/-- What a value may also be read as. -/
def Reads (t : PV → PV) : Prop := ∀ {c : Ctx} {S : Sto} {h : Hp} {x : PV} {v : Value}, RVal c S h x v → RVal c S h (t x) v
theorem Reads.all {t : PV → PV} (ht : Reads t) {c : Ctx} {S : Sto} {h : Hp} : ∀ {xs : List PV} {vs : List Value}, RVals c S h xs vs → RVals c S h (xs.map t) vs
  | [], vs, r => r
  | x :: xs, vs, r => by
    obtain ⟨v, ws, e, h1, h2⟩ := r
    exact ⟨v, ws, e, ht h1, ht.all h2⟩
theorem reads_weak (k : Nat) : Reads (weak k) := fun r => RVal_weak k r
noncomputable def viaP (G : Prog) (f : Nat) (t : PV → PV) (args : List PV) (o : Stack) : Option (PV × Stack) := callI G f (args.map t) o
theorem viaP_good {P : Program} {G : Prog} (ok : ProgOK P G) {f : Nat} {t : PV → PV} (ht : Reads t) {args : List PV} {o o' : Stack} {r : PV} (e : viaP G f t args o = some (r, o')) : Good P f args o r o' := by
  have hg := sound ok e
  exact ⟨hg.1, fun c fp w vals st hr => hg.2 c fp w vals st (ht.all hr)⟩
theorem callI_prim' {G : Prog} {f : Nat} {p : List PV → Stack → Option (PV × Stack)} (h : G.prim f = some p) (args : List PV) (o : Stack) : callI G f args o = p args o := by
  rw [callI_eq]
  simp only [body1, h]
end Go.Am
end
section
/- Results that are handed on as trees that stay as they are. -/
set_option linter.unusedSimpArgs false
set_option linter.unusedVariables false
namespace Go.Am
open Go.RowKit
theorem RX.fal {c c' : Ctx} {S S' : Sto} {h h' : Hp} (hF : ∀ b o, c.F b = some o → c'.F b = some o) {x : PV} {v : Value} {f : List Nat} (t : tree x = true) (hf : ∀ b ∈ f, c'.F b = h b) (r : RX c S h x v f) : RX c' S' h' (Am.fal x) v [] := by
  cases x with
  | bx cs => simp [tree] at t
  | undef => exact r.elim
  | agg cs =>
    obtain ⟨vs, e, r⟩ := r
    exact ⟨vs, e, R.fal hF (.agg cs) vs f t hf r⟩
  | sc u => exact R.fal (S := S) (S' := S') (h' := h') hF (.sc u) [v] f t hf r
  | nils => exact R.fal (S := S) (S' := S') (h' := h') hF .nils [v] f t hf r
  | sl u k xs => exact R.fal (S := S) (S' := S') (h' := h') hF (.sl u k xs) [v] f t hf r
  | own _ _ => simp [tree] at t
  | ref _ _ _ _ => simp [tree] at t
  | sub _ _ _ => simp [tree] at t
  | iref _ _ => simp [tree] at t
  | mp _ => simp [tree] at t
  | clo _ _ => simp [tree] at t
  | tup _ => simp [tree] at t
  | non => simp [tree] at t
theorem RXs.fals {c c' : Ctx} {S S' : Sto} {h h' : Hp} (hF : ∀ b o, c.F b = some o → c'.F b = some o) : ∀ {xs : List PV} {vs : List Value} {f : List Nat}, trees xs = true → (∀ b ∈ f, c'.F b = h b) → RXs c S h xs vs f → RXs c' S' h' (Am.fals xs) vs []
  | [], _, _, _, _, r => ⟨r.1, rfl⟩
  | x :: xs, vs, f, t, hf, ⟨v, ws, f1, f2, e1, e2, r1, r2⟩ => by
    simp only [trees, Bool.and_eq_true] at t
    refine ⟨v, ws, [], [], e1, rfl, RX.fal hF t.1 (fun b hb => hf b (by rw [e2]; exact List.mem_append_left _ hb)) r1, RXs.fals hF t.2 (fun b hb => hf b (by rw [e2]; exact List.mem_append_right _ hb)) r2⟩
/-- A result that may be read otherwise once what it leads to stays as it is. -/
theorem Did.lowG {c : Ctx} {S S' : Sto} {w w' : World} {x y : PV} {e : Ending} (hxy : ∀ (c1 c2 : Ctx) (S1 S2 : Sto) (h1 h2 : Hp) (v : Value) (f : List Nat), (∀ b o, c1.F b = some o → c2.F b = some o) → (∀ b ∈ f, c2.F b = h1 b) → Ret c1 S1 h1 x v f → Ret c2 S2 h2 y v [])
    (d : Did c S w S' x e w') : Did c S w S' y e w' := by
  obtain ⟨v, c', fp', f', e1, hw, ok, ha, hf, r⟩ := d
  have hF : ∀ b o, c'.F b = some o → (addF c' f' (hp w')).F b = some o := by
    intro b o h
    simp only [addF]
    split
    · rename_i hb
      exact (hf.2 b hb).1.no (.inl h)
    · exact h
  have ha2 : Adv c' (addF c' f' (hp w')) S' S' := ⟨hF, rfl, fun x o hx => ⟨o, hx, StepOB.rfl' rfl⟩⟩
  refine ⟨v, addF c' f' (hp w'), fp', [], e1, hw, ok.step ha2 (fun _ => False) ?_ (fun _ _ _ h => h.elim) ?_ ?_, ha.trans ha2, Free.nil, hxy c' _ S' S' (hp w') _ v f' hF (fun b hb => by simp [addF, hb]) r⟩
  · intro id ob hs _
    refine ⟨hs, rfl, rfl, fun b hb => ⟨rfl, ?_, (ok.nF id ob hs b hb).2⟩⟩
    simp only [addF]
    rw [if_neg (fun hb' => (hf.2 b hb').2 id ob hs hb)]
    exact (ok.nF id ob hs b hb).1
  · intro b o h
    simp only [addF] at h
    split at h
    · rcases h with h | h
      · exact h
      · exact ok.okF b o (.inr h)
    · exact ok.okF b o h
  · intro b o h
    simp only [addF] at h ⊢
    split at h
    · rename_i hb
      exact (hf.2 b hb).1.2
    · exact ok.dis b o h
def lowTR : Option (PV × Stack) → Option (PV × Stack)
  | some (.tup ps, o) => if trees ps = true then some (.tup (fals ps), o) else some (.tup ps, o)
  | r => r
/-- A function of a machine as a primitive of another one; the values of its result are trees that stay as they are. -/
noncomputable def lowTP (G : Prog) (f : Nat) (t : PV → PV) (args : List PV) (o : Stack) : Option (PV × Stack) := lowTR (viaP G f t args o)
theorem lowTP_good {P : Program} {G : Prog} (ok : ProgOK P G) {f : Nat} {t : PV → PV} (ht : Reads t) {args : List PV} {o o' : Stack} {r : PV} (e : lowTP G f t args o = some (r, o')) : Good P f args o r o' := by
  unfold lowTP lowTR at e
  split at e
  · rename_i ps o1 he
    split at e
    · rename_i htr
      simp only [Option.some.injEq, Prod.mk.injEq] at e
      obtain ⟨rfl, rfl⟩ := e
      have hg := viaP_good ok ht he
      refine ⟨hg.1, fun c fp w vals st hr => (hg.2 c fp w vals st hr).mono fun e w' h => ⟨h.1, h.2.lowG ?_⟩⟩
      intro c1 c2 S1 S2 h1 h2 v f hF hf r
      obtain ⟨vs, e1, r⟩ := r
      exact ⟨vs, e1, RXs.fals hF htr hf r⟩
    · simp only [Option.some.injEq, Prod.mk.injEq] at e
      obtain ⟨rfl, rfl⟩ := e
      exact viaP_good ok ht he
  · exact viaP_good ok ht e
end Go.Am
end
section
/- A result that is handed on as a tree that stays as it is. -/
set_option linter.unusedSimpArgs false
set_option linter.unusedVariables false
namespace Go.Am
open Go.RowKit
def lowXR : Option (PV × Stack) → Option (PV × Stack)
  | some (x, o) => if tree x = true then some (fal x, o) else some (x, o)
  | r => r
/-- A function of a machine as a primitive of another one; its result is a tree that stays as it is. -/
noncomputable def lowXP (G : Prog) (f : Nat) (t : PV → PV) (args : List PV) (o : Stack) : Option (PV × Stack) := lowXR (viaP G f t args o)
theorem ret_tree {c : Ctx} {S : Sto} {h : Hp} {x : PV} {v : Value} {f : List Nat} (t : tree x = true) (r : Ret c S h x v f) : RX c S h x v f := by
  cases x with
  | tup _ => simp [tree] at t
  | _ => exact r
theorem ret_fal {c : Ctx} {S : Sto} {h : Hp} {x : PV} {v : Value} {f : List Nat} (t : tree x = true) (r : RX c S h (fal x) v f) : Ret c S h (fal x) v f := by
  cases x with
  | tup _ => simp [tree] at t
  | _ => exact r
theorem lowXP_good {P : Program} {G : Prog} (ok : ProgOK P G) {f : Nat} {t : PV → PV} (ht : Reads t) {args : List PV} {o o' : Stack} {r : PV} (e : lowXP G f t args o = some (r, o')) : Good P f args o r o' := by
  unfold lowXP lowXR at e
  split at e
  · rename_i x o1 he
    split at e
    · rename_i htr
      simp only [Option.some.injEq, Prod.mk.injEq] at e
      obtain ⟨rfl, rfl⟩ := e
      have hg := viaP_good ok ht he
      refine ⟨hg.1, fun c fp w vals st hr => (hg.2 c fp w vals st hr).mono fun e w' h => ⟨h.1, h.2.lowG ?_⟩⟩
      intro c1 c2 S1 S2 h1 h2 v f hF hf r
      exact ret_fal htr (RX.fal hF htr hf (ret_tree htr r))
    · simp only [Option.some.injEq, Prod.mk.injEq] at e
      obtain ⟨rfl, rfl⟩ := e
      exact viaP_good ok ht he
  · exact viaP_good ok ht e
end Go.Am
end
