/- What the functions that the law reaches compute. -/
import Derived.Test.YtopipkiebngakaaAnC
import Derived.IntWalk
import Derived.Test.YtopipkiebngakaaCoA
import Derived.Shelf.SlLaysF0
import Derived.Shelf.SlGeneric
import Derived.Ground.SlsfProg
import Derived.Test.YtopipkiebngakaaProg
import Derived.Test.YtopipkiebngakaaAnD
section
/- The reader of a code: its object,and what a byte's choice comes to. -/
set_option maxRecDepth 10000
set_option linter.unusedSimpArgs false
set_option linter.unusedVariables false
namespace Go.Am
def byV (n : Nat) : PV := .sc (.int .u8 n)
def byVs (B : List Nat) : List PV := B.map byV
def rd (B : List Nat) (p : Int) : OB := .box [.sl false 1 (byVs B),.i p]
theorem byVs_len (B : List Nat) : (byVs B).length = B.length := by simp [byVs]
theorem byVs_at (B : List Nat) (k : Nat) (h : k < B.length) : nth (byVs B) k = some (byV B[k]) := by
  simp [nth,byVs,h]
theorem wrD {n : Int} (h : -9223372036854775808 ≤ n ∧ n ≤ 9223372036854775807) : IntKind.i64.wrap n = n := by
  simp only [IntKind.wrap,IntKind.bits,IntKind.signed]
  simp
  omega
@[simp] theorem b_xor (k : IntKind) (a b : Int) : bin .xor (.sc (.int k a)) (.sc (.int k b)) = some (.sc (.int k (bxor k a b))) := by simp [bin]
theorem bxor_nn (a b : Int) (ha : 0 ≤ a) (ha2 : a < 4611686018427387904) (hb : 0 ≤ b) (hb2 : b < 4611686018427387904) : 0 ≤ bxor .i64 a b ∧ bxor .i64 a b < 4611686018427387904 := by
  have h1 : (BitVec.ofInt 64 a ^^^ BitVec.ofInt 64 b).toNat < 2 ^ 62 := by
    rw [BitVec.toNat_xor]
    refine Nat.xor_lt_two_pow ?_ ?_
    · rw [BitVec.toNat_ofInt]; omega
    · rw [BitVec.toNat_ofInt]; omega
  have e : bxor .i64 a b = ((BitVec.ofInt 64 a ^^^ BitVec.ofInt 64 b).toNat : Int) := by
    unfold bxor
    show IntKind.i64.wrap ((BitVec.ofInt 64 a ^^^ BitVec.ofInt 64 b).toNat : Int) = _
    exact wrD (by omega)
  rw [e]
  omega
end Go.Am
end
section
set_option maxRecDepth 10000
set_option linter.unusedSimpArgs false
set_option linter.unusedVariables false
namespace Go.Am
open Go.Proofs
theorem bytes_of : ∀ (n : Nat) (css : List (List PV)),(∀ cs ∈ css,Ty Try.prog n 5 cs) → ∃ B : List Nat,css.map (mkE Try.prog 5) = byVs B ∧ B.length = css.length ∧ ∀ b ∈ B,b < 256
  | _,[],_ => ⟨[],rfl,rfl,fun b hb => by cases hb⟩
  | 0,cs :: css,h => (h cs List.mem_cons_self).elim
  | n + 1,cs :: css,h => by
    have h1 := h cs List.mem_cons_self
    simp only [Ty,Try.underlying5] at h1
    obtain ⟨b,rfl,hb⟩ := h1
    obtain ⟨B,h3,h4,h5⟩ := bytes_of (n + 1) css (fun c hc => h c (List.mem_cons_of_mem _ hc))
    have hb2 : 0 ≤ b ∧ b < 256 := by
      simp [Lit.wf,IntKind.min,IntKind.max,IntKind.bits,IntKind.signed] at hb
      omega
    refine ⟨b.toNat :: B, ?_,by simp [h4],fun x hx => ?_⟩
    · rw [List.map_cons,h3]
      have : ((b.toNat : Nat) : Int) = b := by omega
      simp [mkE,isAg,Try.underlying5,byVs,byV,this]
    · rcases List.mem_cons.1 hx with rfl | hx
      · omega
      · exact h5 x hx
theorem ty_bytes : ∀ (n : Nat) (x : PV),Ty Try.prog n 22 [x] → ∃ B : List Nat,x = .sl false 1 (byVs B) ∧ B.length ≤ 9223372036854775807 ∧ ∀ b ∈ B,b < 256
  | 0,_,h => h.elim
  | n + 1,x,h => by
    simp only [Ty,Try.underlying22] at h
    obtain ⟨css,e,hl,hc⟩ := h
    obtain ⟨B,h1,h2,h3⟩ := bytes_of n css hc
    rw [h1] at e
    refine ⟨B, ?_,by rw [h2]; exact hl,h3⟩
    have := List.cons.inj e
    rw [this.1,show Try.prog.cellsOf 5 = 1 from by kernel_rfl]
end Go.Am
end
section
/- The library's sort at this program,as the kit's tool lays it. -/
namespace Go.Proofs
open Go.Shelf
def Try.sortMv_ren : Go.Shelf.Ren := ⟨fun | 6 => 68 | 15 => 80 | 14 => 79 | 28 => 89 | 29 => 90 | 20 => 81 | 21 => 82 | 22 => 83 | 23 => 84 | 24 => 85 | 25 => 86 | 26 => 87 | 27 => 88 | 46 => 91 | 47 => 92 | 48 => 93 | 49 => 94 | 50 => 95 | 57 => 96 | n => n,fun | 22 => 43 | 24 => 46 | 25 => 69 | 3 => 3 | 39 => 106 | 0 => 0 | 53 => 116 | 55 => 118 | 4 => 4 | 46 => 109 | 45 => 108 | 50 => 113 | 5 => 5 | 9 => 9 | 66 => 119 | 70 => 123 | 76 => 125 | 77 => 126 | n => n,fun | n => n⟩
theorem Try.sortMv : Go.Proofs.SlLaysF0.n6 Try.prog Try.sortMv_ren := {
  mixed := by kernel_rfl
  f6 := ⟨Try.f68.name,by decide,Try.func68.trans (congrArg some (by kernel_rfl))⟩
  f14 := ⟨Try.f79.name,by decide,Try.func79.trans (congrArg some (by kernel_rfl))⟩
  f15 := Try.func80.trans (congrArg some (by kernel_rfl))
  f20 := ⟨Try.f81.name,by decide,Try.func81.trans (congrArg some (by kernel_rfl))⟩
  f21 := ⟨Try.f82.name,by decide,Try.func82.trans (congrArg some (by kernel_rfl))⟩
  f22 := ⟨Try.f83.name,by decide,Try.func83.trans (congrArg some (by kernel_rfl))⟩
  f23 := ⟨Try.f84.name,by decide,Try.func84.trans (congrArg some (by kernel_rfl))⟩
  f24 := ⟨Try.f85.name,by decide,Try.func85.trans (congrArg some (by kernel_rfl))⟩
  f25 := ⟨Try.f86.name,by decide,Try.func86.trans (congrArg some (by kernel_rfl))⟩
  f26 := ⟨Try.f87.name,by decide,Try.func87.trans (congrArg some (by kernel_rfl))⟩
  f27 := ⟨Try.f88.name,by decide,Try.func88.trans (congrArg some (by kernel_rfl))⟩
  f28 := Try.func89.trans (congrArg some (by kernel_rfl))
  f29 := Try.func90.trans (congrArg some (by kernel_rfl))
  f46 := ⟨Try.f91.name,by decide,Try.func91.trans (congrArg some (by kernel_rfl))⟩
  f47 := Try.func92.trans (congrArg some (by kernel_rfl))
  f48 := Try.func93.trans (congrArg some (by kernel_rfl))
  f49 := ⟨Try.f94.name,by decide,Try.func94.trans (congrArg some (by kernel_rfl))⟩
  f50 := ⟨Try.f95.name,by decide,Try.func95.trans (congrArg some (by kernel_rfl))⟩
  f57 := ⟨Try.f96.name,by decide,Try.func96.trans (congrArg some (by kernel_rfl))⟩
  t0 := Try.underlying0
  a0 := Try.isAgg0
  z0 := Try.sizeOf0
  v0 := Try.zeroValue0
  t3 := Try.underlying3
  a3 := Try.isAgg3
  z3 := Try.sizeOf3
  v3 := Try.zeroValue3
  t4 := Try.underlying4
  a4 := Try.isAgg4
  z4 := Try.sizeOf4
  v4 := Try.zeroValue4
  t5 := Try.underlying5
  a5 := Try.isAgg5
  z5 := Try.sizeOf5
  v5 := Try.zeroValue5
  t9 := Try.underlying9
  a9 := Try.isAgg9
  z9 := Try.sizeOf9
  v9 := Try.zeroValue9
  t22 := Try.underlying43
  a22 := Try.isAgg43
  z22 := Try.sizeOf43
  v22 := Try.zeroValue43
  t25 := Try.underlying69
  a25 := Try.isAgg69
  z25 := Try.sizeOf69
  v25 := Try.zeroValue69
  t39 := Try.underlying106
  a39 := Try.isAgg106
  z39 := Try.sizeOf106
  v39 := Try.zeroValue106
  t45 := Try.underlying108
  a45 := Try.isAgg108
  z45 := Try.sizeOf108
  v45 := Try.zeroValue108
  t46 := Try.underlying109
  a46 := Try.isAgg109
  z46 := Try.sizeOf109
  v46 := Try.zeroValue109
  t50 := Try.underlying113
  a50 := Try.isAgg113
  z50 := Try.sizeOf113
  v50 := Try.zeroValue113
  t53 := Try.underlying116
  a53 := Try.isAgg116
  z53 := Try.sizeOf116
  v53 := Try.zeroValue116
  t55 := Try.underlying118
  a55 := Try.isAgg118
  z55 := Try.sizeOf118
  v55 := Try.zeroValue118
  t66 := Try.underlying119
  a66 := Try.isAgg119
  z66 := Try.sizeOf119
  v66 := Try.zeroValue119
  t70 := Try.underlying123
  a70 := Try.isAgg123
  z70 := Try.sizeOf123
  v70 := Try.zeroValue123
  t76 := Try.underlying125
  a76 := Try.isAgg125
  z76 := Try.sizeOf125
  v76 := Try.zeroValue125
  t77 := Try.underlying126
  a77 := Try.isAgg126
  z77 := Try.sizeOf126
  v77 := Try.zeroValue126 }
end Go.Proofs
end
section

end
section
set_option maxRecDepth 100000
set_option linter.unusedSimpArgs false
set_option linter.unusedVariables false
namespace Go.Am
open Go.Proofs Go.Sort Go.Shelf
def cmpI (a b : Int) : Int := if a < b then -1 else if b < a then 1 else 0
def cmpM (x y : Int × Int) : Int := if cmpI x.1 y.1 ≠ 0 then cmpI x.1 y.1 else cmpI x.2 y.2
theorem eqNaN0 (a : Int) : callI G0 71 [.i a] [] = some (.b false,[]) := by
  rw [callI_eq]
  simp [body1_eq _ _ (gp0 71) g71,c71,a71]
theorem eqCmp0 (a b : Int) : callI G0 56 [.i a,.i b] [] = some (.i (cmpI a b),[]) := by
  have h1 := eqNaN0 a
  have h2 := eqNaN0 b
  rw [callI_eq]
  unfold cmpI
  by_cases c1 : a < b
  · simp [body1_eq _ _ (gp0 56) g56,c56,a56,h1,h2,c1]
  · by_cases c2 : b < a
    · simp [body1_eq _ _ (gp0 56) g56,c56,a56,h1,h2,c1,c2]
    · simp [body1_eq _ _ (gp0 56) g56,c56,a56,h1,h2,c1,c2]
theorem eqByMove0 (x y : Int × Int) : callI G0 39 [mvP x,mvP y] [] = some (.i (cmpM x y),[]) := by
  have h1 := eqCmp0 x.1 y.1
  have h2 := eqCmp0 x.2 y.2
  rw [callI_eq]
  unfold cmpM
  by_cases c1 : cmpI x.1 y.1 = 0
  · simp [body1_eq _ _ (gp0 39) g39,c39,a39,mvP,h1,h2,c1]
  · simp [body1_eq _ _ (gp0 39) g39,c39,a39,mvP,h1,h2,c1]
def ltM (x y : Int × Int) : Bool := ltOf cmpM x y
theorem ltM_iff (x y : Int × Int) : ltM x y = true ↔ x.1 < y.1 ∨ x.1 = y.1 ∧ x.2 < y.2 := by
  unfold ltM ltOf cmpM cmpI
  simp only [decide_eq_true_eq]
  repeat' split
  all_goals (constructor <;> intro h <;> omega)
theorem ltM_false (x y : Int × Int) : ltM x y = false ↔ y.1 < x.1 ∨ y.1 = x.1 ∧ y.2 ≤ x.2 := by
  have := ltM_iff x y
  cases h : ltM x y with
  | true =>
    have := this.1 h
    constructor
    · intro e; cases e
    · intro e; omega
  | false =>
    rw [h] at this
    simp only [Bool.false_eq_true,false_iff] at this
    constructor
    · intro _; omega
    · intro _; rfl
theorem swoM : SWO (ltOf cmpM) where
  irrefl x := (ltM_false x x).2 (by omega)
  trans x y z h1 h2 := (ltM_iff x z).2 (by have := (ltM_iff x y).1 h1; have := (ltM_iff y z).1 h2; omega)
  ntrans x y z h1 h2 := (ltM_false x z).2 (by have := (ltM_false x y).1 h1; have := (ltM_false y z).1 h2; omega)
theorem totM (x y : Int × Int) (h1 : (ltOf cmpM) x y = false) (h2 : (ltOf cmpM) y x = false) : x = y := by
  have a := (ltM_false x y).1 h1
  have b := (ltM_false y x).1 h2
  exact Prod.ext (by omega) (by omega)
def prims : Nat → Option (List PV → Stack → Option (PV × Stack))
  | 68 => some (sortP 39 (ltOf cmpM))
  | _ => none
def G : Prog := ⟨codes,prims⟩
theorem gp (n : Nat) (h : prims n = none := by rfl) : G.prim n = none := h
theorem progOK : ProgOK Try.prog G := by
  refine ⟨progOK0.1,fun f af _ h => progOK0.code f af rfl h,fun f p h => ?_⟩
  simp only [G] at h
  unfold prims at h
  split at h
  all_goals first
    | (simp only [Option.some.injEq] at h; subst h; intro args o r o' e; exact sortP_good Try.sortMv Try.isAgg46 Try.sizeOf46 ⟨Try.f68,Try.func68,by kernel_rfl,by decide +kernel⟩ swoM totM (fun x y => sound progOK0 (eqByMove0 x y)) e)
    | (simp only [Option.some.injEq] at h; subst h; intro args o r o' e; exact cloneMv_good (fun A cp => sound progOK0 (eqClone0 A cp)) (fun d ds hl => sound progOK0 (eqClone1 d ds hl)) e)
    | (cases h; done)
theorem callI_prim {G : Prog} {f : Nat} {p : List PV → Stack → Option (PV × Stack)} (h : G.prim f = some p) (args : List PV) (o : Stack) : callI G f args o = p args o := by
  rw [callI_eq]
  simp only [body1,h]
theorem eqSortM (args : List PV) (o : Stack) : callI G 68 args o = sortP 39 ltM args o := callI_prim rfl args o
end Go.Am
end
section
set_option maxRecDepth 10000
set_option linter.unusedSimpArgs false
set_option linter.unusedVariables false
namespace Go.Am
open Go.Proofs
abbrev Mv := Int × Int
abbrev Gr := List (List Mv)
theorem wr {n : Int} (h : -9223372036854775808 ≤ n ∧ n ≤ 9223372036854775807) : IntKind.i64.wrap n = n := by
  simp only [IntKind.wrap,IntKind.bits,IntKind.signed]
  simp
  omega
def encL (nl u : Bool) (l : List Mv) : PV := if (nl && l.isEmpty) = true then .nils else .sl u 2 (l.map mvP)
def encGs (nl u : Bool) (g : Gr) : List PV := g.map (encL nl u)
def encM' (nl u : Bool) (g : Gr) : PV := if (nl && g.isEmpty) = true then .nils else .sl u 1 (encGs nl u g)
abbrev encG (nl u : Bool) (g : Gr) : PV := .agg [encM' nl u g]
@[simp] theorem encL_f (u : Bool) (l : List Mv) : encL false u l = .sl u 2 (l.map mvP) := rfl
@[simp] theorem encL_n (u : Bool) : encL true u [] = .nils := rfl
@[simp] theorem encL_c (nl u : Bool) (x : Mv) (l : List Mv) : encL nl u (x :: l) = .sl u 2 (mvP x :: l.map mvP) := by simp [encL]
theorem encL_ne {nl u : Bool} {l : List Mv} (h : l ≠ []) : encL nl u l = .sl u 2 (l.map mvP) := by
  cases l with
  | nil => exact absurd rfl h
  | cons x l => simp
@[simp] theorem encM_f (u : Bool) (g : Gr) : encM' false u g = .sl u 1 (encGs false u g) := rfl
@[simp] theorem encM_n (u : Bool) : encM' true u [] = .nils := rfl
@[simp] theorem encM_c (nl u : Bool) (x : List Mv) (g : Gr) : encM' nl u (x :: g) = .sl u 1 (encL nl u x :: encGs nl u g) := by simp [encM',encGs]
@[simp] theorem encGs_len (nl u : Bool) (g : Gr) : (encGs nl u g).length = g.length := by simp [encGs]
@[simp] theorem fal_mvP (x : Mv) : fal (mvP x) = mvP x := rfl
theorem fals_mvP : ∀ l : List Mv,fals (l.map mvP) = l.map mvP
  | [] => rfl
  | x :: l => by
    have := fals_mvP l
    simp [fals,this]
theorem fal_encL (nl u : Bool) (l : List Mv) : fal (encL nl u l) = encL nl false l := by
  unfold encL
  split
  · rfl
  · simp [fal,fals_mvP]
theorem fals_encGs (nl u : Bool) : ∀ g : Gr,fals (encGs nl u g) = encGs nl false g
  | [] => rfl
  | l :: g => by
    have := fals_encGs nl u g
    simp only [encGs,List.map_cons,fals,fal_encL] at this ⊢
    rw [this]
theorem fal_encM (nl u : Bool) (g : Gr) : fal (encM' nl u g) = encM' nl false g := by
  unfold encM'
  split
  · rfl
  · simp [fal,fals_encGs]
theorem mv_at (a : List Mv) (x : Mv) (b : List Mv) : nth ((a ++ x :: b).map mvP) a.length = some (mvP x) := by
  unfold nth; simp
theorem encGs_app (nl u : Bool) (a b : Gr) : encGs nl u (a ++ b) = encGs nl u a ++ encGs nl u b := by simp [encGs]
theorem gr_at (nl u : Bool) (a : Gr) (x : List Mv) (b : Gr) : nth (encGs nl u (a ++ x :: b)) a.length = some (encL nl u x) := by
  unfold nth encGs; simp
theorem encL_cells (nl u : Bool) (l : List Mv) : (encL nl u l).cells = [encL nl u l] := by unfold encL; split <;> rfl
@[simp] theorem known_encL (f : Nat → Bool) (n : Nat) (nl u : Bool) (l : List Mv) : known f n (encL nl u l) = true := by unfold encL; split <;> rfl
@[simp] theorem cellP_encL (nl u : Bool) (l : List Mv) : cellP (encL nl u l) = true := by unfold encL; split <;> rfl
@[simp] theorem cells_encL (nl u : Bool) (l : List Mv) : (encL nl u l).cells = [encL nl u l] := encL_cells nl u l
@[simp] theorem noRef_encL (nl u : Bool) (l : List Mv) : noRef (encL nl u l) = true := by unfold encL; split <;> rfl
@[simp] theorem plain_encL (nl : Bool) (l : List Mv) : plain (encL nl false l) = true := by unfold encL; split <;> rfl
@[simp] theorem snapE_encL (g : Id → Option OB) (nl u : Bool) (l : List Mv) : snapE g (encL nl u l) = some (encL nl u l) := by unfold encL; split <;> rfl
@[simp] theorem rowIdE_encL (g : Id → Option OB) (nl u : Bool) (l : List Mv) : rowIdE g (encL nl u l) = [] := by unfold encL; split <;> rfl
@[simp] theorem snap_encL (g : Id → Option OB) (nl u : Bool) (l : List Mv) : snap g (encL nl u l) = some (encL nl u l) := by unfold encL; split <;> rfl
@[simp] theorem rowId_encL (g : Id → Option OB) (nl u : Bool) (l : List Mv) : rowId g (encL nl u l) = [] := by unfold encL; split <;> rfl
@[simp] theorem len_encL (n d : Nat) (g : Id → Option OB) (nl u : Bool) (l : List Mv) : core1 n d g .len [encL nl u l] = some (.i l.length,[]) := by
  unfold encL
  split
  · rename_i hh
    have : l = [] := by simp at hh; exact hh.2
    subst this
    simp
  · simp
@[simp] theorem known_encM (f : Nat → Bool) (n : Nat) (nl u : Bool) (l : Gr) : known f n (encM' nl u l) = true := by unfold encM'; split <;> rfl
@[simp] theorem cellP_encM (nl u : Bool) (l : Gr) : cellP (encM' nl u l) = true := by unfold encM'; split <;> rfl
@[simp] theorem noRef_encM (nl u : Bool) (l : Gr) : noRef (encM' nl u l) = true := by unfold encM'; split <;> rfl
@[simp] theorem plain_encM (nl : Bool) (l : Gr) : plain (encM' nl false l) = true := by unfold encM'; split <;> rfl
@[simp] theorem snap_encM (g : Id → Option OB) (nl u : Bool) (l : Gr) : snap g (encM' nl u l) = some (encM' nl u l) := by unfold encM'; split <;> rfl
@[simp] theorem rowId_encM (g : Id → Option OB) (nl u : Bool) (l : Gr) : rowId g (encM' nl u l) = [] := by unfold encM'; split <;> rfl
@[simp] theorem snapE_encM (g : Id → Option OB) (nl u : Bool) (l : Gr) : snapE g (encM' nl u l) = some (encM' nl u l) := by unfold encM'; split <;> rfl
@[simp] theorem rowIdE_encM (g : Id → Option OB) (nl u : Bool) (l : Gr) : rowIdE g (encM' nl u l) = [] := by unfold encM'; split <;> rfl
@[simp] theorem len_encM (n d : Nat) (g : Id → Option OB) (nl u : Bool) (l : Gr) : core1 n d g .len [encM' nl u l] = some (.i l.length,[]) := by
  unfold encM'
  split
  · rename_i hh
    have : l = [] := by simp at hh; exact hh.2
    subst this
    simp
  · simp
def FitG (g : Gr) : Prop := g.length ≤ 9223372036854775807 ∧ ∀ l ∈ g,l.length ≤ 9223372036854775807
def SmallG (g : Gr) : Prop := g.length ≤ 1048576 ∧ ∀ l ∈ g,l.length ≤ 1048576
end Go.Am
end
section
set_option maxRecDepth 100000
set_option linter.unusedSimpArgs false
set_option linter.unusedVariables false
namespace Go.Am
open Go.Proofs Go.Sort Go.Shelf
def wkG (x : PV) : PV := weak 2 (nil1 1 x)
theorem reads_wkG : Reads wkG := fun r => RVal_weak 2 (reads_nil1 1 r)
theorem weak_mvP (x : Mv) : weak 2 (mvP x) = mvP x := rfl
theorem weaks_mvP : ∀ l : List Mv,weaks 2 (l.map mvP) = l.map mvP
  | [] => rfl
  | x :: l => by simp [weaks,weak_mvP,weaks_mvP l]
theorem weak_encL (nl : Bool) (l : List Mv) : weak 2 (encL nl false l) = encL false false l := by
  unfold encL
  split
  · rename_i h
    simp only [Bool.and_eq_true,List.isEmpty_iff] at h
    rw [h.2]; rfl
  · simp [weak,weaks_mvP]
theorem weaks_encGs (nl : Bool) : ∀ g : Gr,weaks 2 (encGs nl false g) = encGs false false g
  | [] => rfl
  | l :: g => by
    have := weaks_encGs nl g
    simp only [encGs,List.map_cons,weaks,weak_encL] at this ⊢
    rw [this]
theorem wkG_enc (nl : Bool) (g : Gr) : wkG (encG nl false g) = encG false false g := by
  unfold wkG encG encM'
  split
  · rename_i h
    simp only [Bool.and_eq_true,List.isEmpty_iff] at h
    rw [h.2]; rfl
  · have : nil1 1 (.agg [.sl false 1 (encGs nl false g)]) = .agg [.sl false 1 (encGs nl false g)] := rfl
    rw [this]
    simp [weak,weaks,weaks_encGs]
theorem reads_id : Reads id := fun r => r
noncomputable def primsH : Nat → Option (List PV → Stack → Option (PV × Stack))
  | 68 => some (sortP 39 (ltOf cmpM))
  | 9 => some (viaP G 9 wkG)
  | 13 => some (viaP G 13 wkG)
  | 58 => some (viaP G 58 wkG)
  | 32 => some (viaP G 32 id)
  | 19 => some (viaP G 19 wkG)
  | _ => none
noncomputable def H : Prog := ⟨codes,primsH⟩
theorem gpH (n : Nat) (h : primsH n = none := by rfl) : H.prim n = none := h
theorem progOKH : ProgOK Try.prog H := by
  refine ⟨progOK.1,fun f af _ h => progOK0.code f af rfl h,fun f p h => ?_⟩
  simp only [H] at h
  unfold primsH at h
  split at h
  all_goals first
    | exact progOK.prim _ _ h
    | (simp only [Option.some.injEq] at h; subst h; intro args o r o' e; first | exact viaP_good progOK reads_wkG e | exact lowTP_good progOK reads_wkG e | exact viaP_good progOK reads_id e | exact lowP_good progOK reads_wkG e)
    | (cases h; done)
end Go.Am
end
section
set_option maxRecDepth 100000
set_option linter.unusedSimpArgs false
set_option linter.unusedVariables false
namespace Go.Am
open Go.Proofs Go.Sort Go.Shelf
noncomputable def primsL : Nat → Option (List PV → Stack → Option (PV × Stack))
  | 5 => some (lowTP H 5 id)
  | 11 => some (lowTP H 11 id)
  | n => primsH n
noncomputable def L : Prog := ⟨codes,primsL⟩
end Go.Am
end
section
set_option maxRecDepth 100000
set_option linter.unusedSimpArgs false
set_option linter.unusedVariables false
namespace Go.Am
open Go.Proofs Go.Sort Go.Shelf
noncomputable def primsM : Nat → Option (List PV → Stack → Option (PV × Stack))
  | 44 => some (lowTP H 44 id)
  | 46 => some (lowXP H 46 id)
  | 47 => some (viaP H 47 id)
  | 25 => some (viaP H 25 id)
  | n => primsH n
noncomputable def M : Prog := ⟨codes,primsM⟩
theorem gpM (n : Nat) (h : primsM n = none := by rfl) : M.prim n = none := h
theorem progOKM : ProgOK Try.prog M := by
  refine ⟨progOK.1,fun f af _ h => progOK0.code f af rfl h,fun f p h => ?_⟩
  simp only [M] at h
  unfold primsM at h
  split at h
  all_goals first
    | exact progOKH.prim _ _ h
    | (simp only [Option.some.injEq] at h; subst h; intro args o r o' e; first | exact lowTP_good progOKH reads_id e | exact lowXP_good progOKH reads_id e | exact viaP_good progOKH reads_id e)
    | (cases h; done)
noncomputable def primsN : Nat → Option (List PV → Stack → Option (PV × Stack))
  | 30 => some (lowXP H 30 id)
  | 31 => some (lowTP M 31 id)
  | 32 => some (lowTP G 32 id)
  | 33 => some (lowTP G 33 wkG)
  | 7 => some (lowTP G 7 wkG)
  | 14 => some (viaP H 14 id)
  | 25 => some (viaP H 25 id)
  | n => primsH n
noncomputable def N : Prog := ⟨codes,primsN⟩
theorem gpN (n : Nat) (h : primsN n = none := by rfl) : N.prim n = none := h
theorem progOKN : ProgOK Try.prog N := by
  refine ⟨progOK.1,fun f af _ h => progOK0.code f af rfl h,fun f p h => ?_⟩
  simp only [N] at h
  unfold primsN at h
  split at h
  all_goals first
    | exact progOKH.prim _ _ h
    | (simp only [Option.some.injEq] at h; subst h; intro args o r o' e; first | exact lowTP_good progOKH reads_id e | exact lowXP_good progOKH reads_id e | exact viaP_good progOKH reads_id e | exact lowTP_good progOKM reads_id e | exact lowTP_good progOK reads_id e | exact lowTP_good progOK reads_wkG e)
    | (cases h; done)
def wkE : PV → PV
  | .agg cs => wkG (.agg cs)
  | x => weak 1 x
theorem reads_wkE : Reads wkE := by
  intro c S h x v r
  unfold wkE
  split
  · exact reads_wkG r
  · exact RVal_weak 1 r
noncomputable def primsW : Nat → Option (List PV → Stack → Option (PV × Stack))
  | 5 => some (lowTP N 5 id)
  | 11 => some (lowTP N 11 id)
  | 6 => some (lowTP G 6 wkG)
  | 7 => some (lowTP G 7 wkG)
  | 10 => some (viaP G 10 wkE)
  | 12 => some (viaP G 12 wkE)
  | 9 => some (lowTP G 9 wkG)
  | 13 => some (lowXP G 13 wkG)
  | 8 => some (viaP H 8 id)
  | n => primsH n
noncomputable def W : Prog := ⟨codes,primsW⟩
theorem gpW (n : Nat) (h : primsW n = none := by rfl) : W.prim n = none := h
theorem progOKW : ProgOK Try.prog W := by
  refine ⟨progOK.1,fun f af _ h => progOK0.code f af rfl h,fun f p h => ?_⟩
  simp only [W] at h
  unfold primsW at h
  split at h
  all_goals first
    | exact progOKH.prim _ _ h
    | (simp only [Option.some.injEq] at h; subst h; intro args o r o' e; first | exact lowTP_good progOKN reads_id e | exact lowTP_good progOK reads_wkG e | exact lowXP_good progOK reads_wkG e | exact viaP_good progOK reads_wkG e | exact viaP_good progOK reads_wkE e | exact viaP_good progOKH reads_id e)
    | (cases h; done)
end Go.Am
end
section
set_option maxRecDepth 10000
set_option maxHeartbeats 4000000
set_option linter.unusedSimpArgs false
set_option linter.unusedVariables false
namespace Go.Am
open Go.Proofs
structure RdrOK (B : List Nat) (p : Int) : Prop where
  len : B.length ≤ 2000
  by8 : ∀ b ∈ B,b < 256
  lo : 0 ≤ p
  hi : p ≤ 1000000000
theorem setS_top (o : Stack) (id : Id) (R : OB) (hid : id.1 < o.length) (r : Regs) (l : Objs) : St.get ⟨r,l,setS o id R⟩ id = some R := by
  rw [get_low (by rw [setS_len]; exact hid),getS_setS hid]
theorem setS_put (o : Stack) (id : Id) (R R' : OB) (hid : id.1 < o.length) (r : Regs) (l : Objs) : St.set ⟨r,l,setS o id R⟩ id R' = ⟨r,l,setS o id R'⟩ := by
  rw [set_low (by rw [setS_len]; exact hid),setS_setS]
theorem eqOpen (B : List Nat) (hB : B.length ≤ 9223372036854775807) : ∃ B',B'.length ≤ 2000 ∧ (∀ b ∈ B',b ∈ B) ∧ callI H 14 [.sl false 1 (byVs B)] [] = some (.bx [.sl false 1 (byVs B'),.i 0],[]) := by
  by_cases h : (2000 : Int) < B.length
  · refine ⟨B.take 2000,by simp; omega,fun b hb => List.mem_of_mem_take hb, ?_⟩
    rw [callI_eq]
    have h2 : (2000 : Int) ≤ B.length := by omega
    simp [body1_eq _ _ (gpH 14) g14,c14,a14,byVs_len,h,h2]
    simp [byVs,List.map_take]
  · refine ⟨B,by omega,fun b hb => hb, ?_⟩
    rw [callI_eq]
    simp [body1_eq _ _ (gpH 14) g14,c14,a14,byVs_len,h]
theorem eqPick (o : Stack) (id : Id) (hid : id.1 < o.length) (B : List Nat) (p n : Int) (hr : RdrOK B p) (hn : 1 ≤ n) (hn2 : n ≤ 1000000000) :
    ∃ k,0 ≤ k ∧ k < n ∧ callI H 25 [.ref id 1 0 0,.i n] (setS o id (rd B p)) = some (.i k,setS o id (rd B (p + 1))) := by
  obtain ⟨h1,h2,h3,h4⟩ := hr
  have hne : ¬ id.1 = (setS o id (rd B p)).length := by rw [setS_len]; omega
  have hne2 : ¬ id.1 = o.length := by omega
  have hg := fun (R : OB) r l => setS_top o id R hid r l
  have hs := fun (R R' : OB) r l => setS_put o id R R' hid r l
  have hw1 : IntKind.i64.wrap (p + 1) = p + 1 := wrD (by omega)
  have hw2 : IntKind.i64.wrap (p + 1 - 1) = p := by rw [wrD (by omega)]; omega
  have hw3 : IntKind.i64.wrap p = p := wrD (by omega)
  have hn0 : ¬ n < 1 := by omega
  have hn1 : ¬ n = 0 := by omega
  by_cases hB : B = []
  · subst hB
    refine ⟨0,by omega,by omega, ?_⟩
    rw [callI_eq]
    simp [-St.get,-St.set,body1_eq _ _ (gpH 25) g25,c25,a25,hne2,hg,hs,rd,byVs,hw1,hw2,hw3,hn0,setS_len]
  · have hBl : (byVs B).length = B.length := byVs_len B
    have hpos : 0 < B.length := List.length_pos_iff.2 hB
    have hl0 : ¬ (B.length : Int) = 0 := by omega
    by_cases hk : p < B.length
    · have hlt : p.toNat < B.length := by omega
      have hat := byVs_at B p.toNat hlt
      have hb := h2 _ (List.getElem_mem hlt)
      generalize B[p.toNat] = b at hat hb
      have hw4 : IntKind.i64.wrap (b : Int) = (b : Int) := wrD (by omega)
      have e1 : (b : Int).tmod n = (b : Int) % n := Int.tmod_eq_emod_of_nonneg (by omega)
      refine ⟨(b : Int) % n,Int.emod_nonneg _ (by omega),Int.emod_lt_of_pos _ (by omega), ?_⟩
      rw [callI_eq]
      simp [-St.get,-St.set,body1_eq _ _ (gpH 25) g25,c25,a25,hne2,hg,hs,rd,hBl,hl0,hw1,hw2,hw3,hw4,hn0,hn1,hk,h3,hat,byV,e1,hB,setS_len]
    · have hbyte : ∀ k : Int,0 ≤ k → ∃ b : Nat,b < 256 ∧ nth (byVs B) (k.tmod B.length).toNat = some (byV b) ∧ 0 ≤ k.tmod B.length ∧ k.tmod B.length < B.length := by
        intro k hk0
        have e := Int.tmod_eq_emod_of_nonneg (b := (B.length : Int)) hk0
        have g1 := Int.emod_nonneg k hl0
        have g2 := Int.emod_lt_of_pos k (b := (B.length : Int)) (by omega)
        have hlt : (k.tmod B.length).toNat < B.length := by rw [e]; omega
        exact ⟨_,h2 _ (List.getElem_mem hlt),byVs_at B _ hlt,by rw [e]; exact g1,by rw [e]; exact g2⟩
      obtain ⟨b1,q1,q2,q3,q4⟩ := hbyte p h3
      obtain ⟨b2,r1,r2,r3,r4⟩ := hbyte (p * 7 + 3) (by omega)
      have d1 : p.tdiv B.length = p / B.length := Int.tdiv_eq_ediv_of_nonneg h3
      have d2 : 0 ≤ p / (B.length : Int) := Int.ediv_nonneg h3 (by omega)
      have d3 : p / (B.length : Int) ≤ p := Int.ediv_le_self _ h3
      have hw4 : IntKind.i64.wrap (b1 : Int) = b1 := wrD (by omega)
      have hw5 : IntKind.i64.wrap (b2 : Int) = b2 := wrD (by omega)
      have hw6 : IntKind.i64.wrap ((b1 : Int) * 131) = b1 * 131 := wrD (by omega)
      have hw7 : IntKind.i64.wrap ((b2 : Int) * 1117) = b2 * 1117 := wrD (by omega)
      have hw8 : IntKind.i64.wrap (p * 7) = p * 7 := wrD (by omega)
      have hw9 : IntKind.i64.wrap (p * 7 + 3) = p * 7 + 3 := wrD (by omega)
      have hw10 : IntKind.i64.wrap ((b1 : Int) * 131 + b2 * 1117) = b1 * 131 + b2 * 1117 := wrD (by omega)
      have hw11 : IntKind.i64.wrap (p * 29) = p * 29 := wrD (by omega)
      have hw12 : IntKind.i64.wrap ((b1 : Int) * 131 + b2 * 1117 + p * 29) = b1 * 131 + b2 * 1117 + p * 29 := wrD (by omega)
      have hw13 : IntKind.i64.wrap (p.tdiv B.length) = p.tdiv B.length := by rw [d1]; exact wrD (by omega)
      have hw14 : IntKind.i64.wrap (p.tdiv B.length * 53) = p.tdiv B.length * 53 := by rw [d1]; exact wrD (by omega)
      have hw15 : IntKind.i64.wrap ((b1 : Int) * 131 + b2 * 1117 + p * 29 + p.tdiv B.length * 53) = b1 * 131 + b2 * 1117 + p * 29 + p.tdiv B.length * 53 := by rw [d1]; exact wrD (by omega)
      have hX : 0 ≤ (b1 : Int) * 131 + b2 * 1117 + p * 29 + p.tdiv B.length * 53 ∧ (b1 : Int) * 131 + b2 * 1117 + p * 29 + p.tdiv B.length * 53 < 4611686018427387904 := by rw [d1]; omega
      generalize hXe : (b1 : Int) * 131 + b2 * 1117 + p * 29 + p.tdiv B.length * 53 = X at *
      have d4 : X.tdiv 64 = X / 64 := Int.tdiv_eq_ediv_of_nonneg hX.1
      have hw16 : IntKind.i64.wrap (X.tdiv 64) = X / 64 := by rw [d4]; exact wrD (by omega)
      obtain ⟨y1,y2⟩ := bxor_nn X (X / 64) hX.1 hX.2 (by omega) (by omega)
      have e1 : (bxor .i64 X (X / 64)).tmod n = bxor .i64 X (X / 64) % n := Int.tmod_eq_emod_of_nonneg y1
      refine ⟨bxor .i64 X (X / 64) % n,Int.emod_nonneg _ (by omega),Int.emod_lt_of_pos _ (by omega), ?_⟩
      rw [callI_eq]
      simp [-St.get,-St.set,body1_eq _ _ (gpH 25) g25,c25,a25,hne2,hg,hs,rd,hBl,hl0,hw1,hw2,hw3,hw4,hw5,hw6,hw7,hw8,hw9,hw10,hw11,hw12,hw13,hw14,hw15,hw16,hn0,hn1,hk,h3,q2,q3,q4,r2,r3,r4,byV,hXe,e1,hB,setS_len]
theorem frC {f : Nat} {args : List PV} {o : Stack} {id : Id} {R R' : OB} {r : PV} (hid : id.1 < o.length) (h : callI H f args (setS (o ++ [[]]) id R) = some (r,setS (o ++ [[]]) id R')) : callI H f args (setS o id R ++ [[]]) = some (r,setS o id R' ++ [[]]) := by
  rw [setS_app _ _ _ _ hid,setS_app _ _ _ _ hid] at h
  exact h
theorem hidA {o : Stack} {id : Id} (hid : id.1 < o.length) : id.1 < (o ++ [([] : Objs)]).length := by simp; omega
theorem pickF (o : Stack) (id : Id) (hid : id.1 < o.length) (B : List Nat) (p n : Int) (hr : RdrOK B p) (hn : 1 ≤ n) (hn2 : n ≤ 1000000000) :
    ∃ k,0 ≤ k ∧ k < n ∧ callI H 25 [.ref id 1 0 0,.i n] (setS o id (rd B p) ++ [[]]) = some (.i k,setS o id (rd B (p + 1)) ++ [[]]) := by
  obtain ⟨k,h1,h2,h3⟩ := eqPick (o ++ [[]]) id (hidA hid) B p n hr hn hn2
  exact ⟨k,h1,h2,frC hid h3⟩
theorem RdrOK.next {B : List Nat} {p q : Int} (h : RdrOK B p) (h1 : p ≤ q) (h2 : q ≤ 1000000000) : RdrOK B q := ⟨h.len,h.by8,by have := h.lo; omega,h2⟩
end Go.Am
end
section
set_option maxRecDepth 10000
set_option linter.unusedSimpArgs false
set_option linter.unusedVariables false
namespace Go.Am
open Go.Proofs
end Go.Am
end
section
set_option maxRecDepth 10000
set_option linter.unusedSimpArgs false
set_option linter.unusedVariables false
namespace Go.Am
open Go.Proofs
def mkL : Int → List Mv → List Mv
  | _,[] => []
  | k,_ :: l => (k,k + 1) :: mkL (k + 2) l
def mkG : Int → Gr → Gr
  | _,[] => []
  | k,l :: g => mkL k l :: mkG (k + 2 * l.length) g
@[simp] theorem mkL_len : ∀ (k : Int) (l : List Mv),(mkL k l).length = l.length
  | _,[] => rfl
  | k,_ :: l => by simp [mkL,mkL_len _ l]
@[simp] theorem mkG_len : ∀ (k : Int) (g : Gr),(mkG k g).length = g.length
  | _,[] => rfl
  | k,_ :: l => by simp [mkG,mkG_len _ l]
theorem at_D (D : List PV) (x : PV) (E : List PV) (n : Nat) (h : n = D.length) : nth (D ++ x :: E) n = some x := by
  subst h
  unfold nth
  rw [List.getElem?_append_right (Nat.le_refl _)]
  simp
theorem set_D (D : List PV) (x y : PV) (E : List PV) (n : Nat) (h : n = D.length) : (D ++ x :: E).set n y = D ++ y :: E := by
  subst h
  rw [List.set_append_right _ _ (Nat.le_refl _)]
  simp
end Go.Am
end
section
set_option maxRecDepth 10000
set_option linter.unusedSimpArgs false
set_option linter.unusedVariables false
namespace Go.Am
open Go.Proofs Go.Sort Go.Shelf
theorem eqNaN (a : Int) : callI G 71 [.i a] [] = some (.b false,[]) := by
  rw [callI_eq]
  simp [body1_eq _ _ (gp 71) g71,c71,a71]
theorem eqCmp (a b : Int) : callI G 56 [.i a,.i b] [] = some (.i (cmpI a b),[]) := by
  have h1 := eqNaN a
  have h2 := eqNaN b
  rw [callI_eq]
  unfold cmpI
  by_cases c1 : a < b
  · simp [body1_eq _ _ (gp 56) g56,c56,a56,h1,h2,c1]
  · by_cases c2 : b < a
    · simp [body1_eq _ _ (gp 56) g56,c56,a56,h1,h2,c1,c2]
    · simp [body1_eq _ _ (gp 56) g56,c56,a56,h1,h2,c1,c2]
theorem eqByMove (x y : Int × Int) : callI G 39 [mvP x,mvP y] [] = some (.i (cmpM x y),[]) := by
  have h1 := eqCmp x.1 y.1
  have h2 := eqCmp x.2 y.2
  rw [callI_eq]
  unfold cmpM
  by_cases c1 : cmpI x.1 y.1 = 0
  · simp [body1_eq _ _ (gp 39) g39,c39,a39,mvP,h1,h2,c1]
  · simp [body1_eq _ _ (gp 39) g39,c39,a39,mvP,h1,h2,c1]
theorem cmpM_ge (x y : Mv) : decide (0 ≤ cmpM x y) = !ltM x y := by
  unfold ltM ltOf
  by_cases h : cmpM x y < 0
  · have : ¬ 0 ≤ cmpM x y := by omega
    simp [h,this]
  · have : 0 ≤ cmpM x y := by omega
    simp [h,this]
theorem eqLess (x y : Mv) : callI G 42 [mvP x,mvP y] [] = some (.b (ltM x y),[]) := by
  rw [callI_eq]
  have h : ltM x y = (decide (x.1 < y.1) || decide (x.1 = y.1) && decide (x.2 < y.2)) := by
    have := ltM_iff x y
    cases e : ltM x y with
    | true => have := this.1 e; rcases this with h | ⟨h1,h2⟩ <;> simp [*]
    | false =>
      have h3 := (ltM_false x y).1 e
      have : ¬ x.1 < y.1 := by omega
      by_cases c : x.1 = y.1
      · have : ¬ x.2 < y.2 := by omega
        simp [*]
      · simp [*]
  rw [h]
  by_cases c1 : x.1 < y.1
  · simp [body1_eq _ _ (gp 42) g42,c42,a42,mvP,c1]
  · by_cases c2 : x.1 = y.1
    · simp [body1_eq _ _ (gp 42) g42,c42,a42,mvP,c1,c2]
    · simp [body1_eq _ _ (gp 42) g42,c42,a42,mvP,c1,c2]
theorem l6In (n a b : Int) : callI G 28 [.i n,.i a,.i b] [] = some (.b (decide (a ≤ n) && decide (n ≤ b)),[]) := by
  rw [callI_eq]
  by_cases h : a ≤ n <;> simp [body1_eq _ _ (gp 28) g28,c28,a28,h]
def actOk (a : Int) : Bool := decide (-4 ≤ a) && decide (a ≤ 4)
theorem eqActS (a : Int) : callI G 41 [.i a] [] = some (.b (actOk a),[]) := by
  have h := l6In a (-4) 4
  rw [callI_eq]
  unfold actOk
  simp [body1_eq _ _ (gp 41) g41,c41,a41,h]
theorem eqActI (a : Int) : callI G 38 [.i a] [] = some (.b (actOk a),[]) := by
  rw [callI_eq]
  unfold actOk
  by_cases h : -4 ≤ a <;> simp [body1_eq _ _ (gp 38) g38,c38,a38,h]
def mvOk (n : Nat) (m : Mv) : Bool := actOk m.1 && (decide (0 ≤ m.2) && decide (m.2 < n))
def prevOk : Option Mv → Mv → Bool
  | none,_ => true
  | some p,m => ltM p m
def rowOk (n : Nat) : Option Mv → List Mv → Bool
  | _,[] => true
  | p,m :: l => mvOk n m && (prevOk p m && rowOk n (some m) l)
def grOk (g : Gr) : Bool := decide (1 ≤ g.length) && (decide (g.length ≤ 60) && g.all (rowOk g.length none))
theorem last_cases (d : List Mv) : (d = [] ∧ d.getLast? = none) ∨ ∃ d' p,d = d' ++ [p] ∧ d.getLast? = some p := by
  rcases List.eq_nil_or_concat d with h | ⟨d',p,h⟩
  · exact .inl ⟨h,by rw [h]; rfl⟩
  · exact .inr ⟨d',p,by simpa using h,by rw [h]; simp⟩
theorem loopOkI0 (g : Gr) (T : PV) (hT : ∀ f n,known f n T = true) (i m : Int) : ∀ (rest done : List Mv),(done ++ rest).length ≤ 9223372036854775807 → g.length ≤ 60 →
    ∃ r,loopI G [1,4,18,19,20,24,25,26] [1] c19l0 ⟨[(1,.ref (0,1) 1 0 0),(4,.sl false 2 ((done ++ rest).map mvP)),(18,T),(19,.i m),(20,.i i),(24,.sl false 2 ((done ++ rest).map mvP)),(25,.i (done ++ rest).length),(26,.i done.length)],[(1,.box [PV.sl false 1 (encGs false false g)])],[]⟩ = some r ∧
      ((rowOk g.length done.getLast? rest = false ∧ r = (.ret,⟨[(2,.b false)],[],[]⟩)) ∨ (rowOk g.length done.getLast? rest = true ∧ r = (.exit 2,⟨[(1,.ref (0,1) 1 0 0),(4,.sl false 2 ((done ++ rest).map mvP)),(18,T),(19,.i m),(20,.i i),(24,.sl false 2 ((done ++ rest).map mvP)),(25,.i (done ++ rest).length),(26,.i (done ++ rest).length),(27,.b false)],[(1,.box [PV.sl false 1 (encGs false false g)])],[]⟩)))
  | [],done,h,hg => by
    rw [loopI_eq]
    refine ⟨_, ?_,.inr ⟨rfl,rfl⟩⟩
    simp [r19l0,b19l0,hT]
  | x :: rest,done,h,hg => by
    have hlt : (done.length : Int) < (done.length : Int) + ((rest.length : Int) + 1) := by omega
    have hw : IntKind.i64.wrap ((done.length : Int) + 1) = (done.length : Int) + 1 := wr (by simp at h; omega)
    have hat := mv_at done x rest
    have ha := eqActI x.1
    obtain ⟨r,hn,hr⟩ := loopOkI0 g T hT i m rest (done ++ [x]) (by simpa using h) hg
    have hgl : (done ++ [x]).getLast? = some x := by simp
    rw [hgl] at hr
    simp only [List.append_assoc,List.cons_append,List.nil_append,List.length_append,List.length_cons,List.length_nil,Int.natCast_add,show ((0 + 1 : Nat) : Int) = 1 from rfl,show ((1 : Nat) : Int) = 1 from rfl,List.map_append,List.map_cons,mvP] at hn hr hat
    rw [loopI_eq]
    by_cases h1 : actOk x.1 = true
    · by_cases h2 : x.2 < 0
      · refine ⟨_, ?_,.inl ⟨?_,rfl⟩⟩
        · simp [r19l0,b19l0,hT,hlt,hat,mvP,ha,h1,h2]
        · have : ¬ 0 ≤ x.2 := by omega
          simp [rowOk,mvOk,this]
      · by_cases h3 : (g.length : Int) ≤ x.2
        · refine ⟨_, ?_,.inl ⟨?_,rfl⟩⟩
          · simp [r19l0,b19l0,hT,hlt,hat,mvP,ha,h1,h2,h3]
          · have : ¬ x.2 < g.length := by omega
            simp [rowOk,mvOk,this]
        · have h2' : 0 ≤ x.2 := by omega
          have h3' : x.2 < g.length := by omega
          have hm : mvOk g.length x = true := by simp [mvOk,h1,h2',h3']
          rcases last_cases done with ⟨hd,hl⟩ | ⟨d',p,hd,hl⟩
          · subst hd
            simp only [List.length_nil,List.nil_append,show ((0 : Nat) : Int) = 0 from rfl,List.map_nil,Int.zero_add] at hn hat hlt hw hr ⊢
            refine ⟨r, ?_, ?_⟩
            · simp [r19l0,b19l0,hT,hlt,hat,mvP,ha,h1,h2,h3,hw]
              simpa [mvP] using hn
            · rcases hr with ⟨q1,q2⟩ | ⟨q1,q2⟩
              · exact .inl ⟨by simp [rowOk,prevOk,q1],q2⟩
              · exact .inr ⟨by simp [rowOk,prevOk,q1,hm],by simpa [mvP] using q2⟩
          · have hb := eqByMove p x
            have hge := cmpM_ge p x
            have hdl : (done.length : Int) = (d'.length : Int) + 1 := by rw [hd]; simp
            have hpos : 0 < (done.length : Int) := by omega
            have hne : done ≠ [] := by rw [hd]; simp
            have hwm : IntKind.i64.wrap ((done.length : Int) - 1) = d'.length := by rw [hdl,wr (by simp at h; omega)]; omega
            have hat2 : nth (done.map mvP ++ mvP x :: rest.map mvP) d'.length = some (mvP p) := by
              rw [hd]; simp only [List.map_append,List.map_cons,List.map_nil,List.append_assoc,List.cons_append,List.nil_append]
              exact at_D _ _ _ _ (by simp)
            have hlt2 : (d'.length : Int) < (done.length : Int) + ((rest.length : Int) + 1) := by omega
            simp only [mvP] at hb hat2
            cases hv : ltM p x with
            | false =>
              rw [hv] at hge
              have hge' : 0 ≤ cmpM p x := by simpa using hge
              refine ⟨_, ?_,.inl ⟨by rw [hl]; simp [rowOk,prevOk,hv],rfl⟩⟩
              simp [r19l0,b19l0,hT,hlt,hat,mvP,ha,h1,h2,h3,hpos,hwm,hat2,hlt2,hb,hge',hne]
            | true =>
              rw [hv] at hge
              have hge' : ¬ 0 ≤ cmpM p x := by simpa using hge
              refine ⟨r, ?_, ?_⟩
              · simp [r19l0,b19l0,hT,hlt,hat,mvP,ha,h1,h2,h3,hpos,hwm,hat2,hlt2,hb,hge',hw,hne]
                simpa [mvP] using hn
              · rw [hl]
                rcases hr with ⟨q1,q2⟩ | ⟨q1,q2⟩
                · exact .inl ⟨by simp [rowOk,prevOk,q1],q2⟩
                · exact .inr ⟨by simp [rowOk,prevOk,q1,hm,hv],by simpa [mvP] using q2⟩
    · have h1' : actOk x.1 = false := by simpa using h1
      refine ⟨_, ?_,.inl ⟨by simp [rowOk,mvOk,h1'],rfl⟩⟩
      simp [r19l0,b19l0,hT,hlt,hat,mvP,ha,h1']
theorem loopOkI1 (g : Gr) (hf : FitG g) (hg : g.length ≤ 60) : ∀ (rest done : Gr),g = done ++ rest →
    ∃ r,loopI G [1,18,19,20] [1] c19l1 ⟨[(1,.ref (0,1) 1 0 0),(18,.sl false 1 (encGs false false g)),(19,.i g.length),(20,.i done.length)],[(1,.box [PV.sl false 1 (encGs false false g)])],[]⟩ = some r ∧
      ((rest.all (rowOk g.length none) = false ∧ r = (.ret,⟨[(2,.b false)],[],[]⟩)) ∨ (rest.all (rowOk g.length none) = true ∧ ∃ s,r = (.exit 0,s) ∧ s.o = [] ∧ s.l = [(1,.box [PV.sl false 1 (encGs false false g)])]))
  | [],done,h => by
    rw [loopI_eq]
    have : done.length = g.length := by rw [h]; simp
    refine ⟨(.exit 0,⟨[(1,.ref (0,1) 1 0 0),(18,.sl false 1 (encGs false false g)),(19,.i g.length),(20,.i g.length),(21,.b false)],[(1,.box [PV.sl false 1 (encGs false false g)])],[]⟩), ?_,.inr ⟨rfl,_,rfl,rfl,rfl⟩⟩
    simp [r19l1,b19l1,this]
  | l :: rest,done,h => by
    have hlt : (done.length : Int) < g.length := by rw [h]; simp; omega
    have hw : IntKind.i64.wrap ((done.length : Int) + 1) = (done.length : Int) + 1 := wr (by omega)
    have hat : nth (encGs false false g) done.length = some (.sl false 2 (l.map mvP)) := by rw [h]; exact gr_at false false done l rest
    have hll : l.length ≤ 9223372036854775807 := hf.2 l (by rw [h]; simp)
    obtain ⟨r0,h0,hr0⟩ := loopOkI0 g (.sl false 1 (encGs false false g)) (by intro f n; rfl) done.length g.length l [] (by simpa using hll) hg
    obtain ⟨r,hn,hr⟩ := loopOkI1 g hf hg rest (done ++ [l]) (by rw [h]; simp)
    simp only [List.nil_append,List.length_nil,show ((0 : Nat) : Int) = 0 from rfl,List.getLast?_nil] at h0 hr0
    rw [loopI_eq]
    rcases hr0 with ⟨q1,q2⟩ | ⟨q1,q2⟩
    · subst q2
      refine ⟨_, ?_,.inl ⟨by simp [q1],rfl⟩⟩
      simp [r19l1,b19l1,hlt,hat,h0]
    · subst q2
      refine ⟨r, ?_, ?_⟩
      · simp [r19l1,b19l1,hlt,hat,h0,hw]
        simpa using hn
      · rcases hr with ⟨p1,p2⟩ | ⟨p1,p2⟩
        · exact .inl ⟨by simp only [List.all_cons,p1,Bool.and_false],p2⟩
        · exact .inr ⟨by simp only [List.all_cons,p1,q1,Bool.and_true],p2⟩
theorem eqOkI (g : Gr) (hf : FitG g) : callI G 19 [encG false false g] [] = some (.b (grOk g),[]) := by
  rw [callI_eq]
  unfold grOk
  by_cases h1 : (g.length : Int) < 1
  · have : ¬ 1 ≤ g.length := by omega
    simp [body1_eq _ _ (gp 19) g19,c19,a19,h1,this]
  · have h1' : 1 ≤ g.length := by omega
    by_cases h2 : (60 : Int) < g.length
    · have : ¬ g.length ≤ 60 := by omega
      simp [body1_eq _ _ (gp 19) g19,c19,a19,h1,h2,this]
    · have h2' : g.length ≤ 60 := by omega
      obtain ⟨r,hl,hr⟩ := loopOkI1 g hf h2' g [] rfl
      simp only [List.length_nil,show ((0 : Nat) : Int) = 0 from rfl,encM_f] at hl hr
      rcases hr with ⟨p1,p2⟩ | ⟨p1,s,p2,p3,p4⟩
      · subst p2
        simp only [p1]
        simp [body1_eq _ _ (gp 19) g19,c19,a19,h1,h2,hl]
      · subst p2
        obtain ⟨sr,sl,so⟩ := s
        simp only at p3 p4
        subst p3 p4
        simp only [p1]
        simp [body1_eq _ _ (gp 19) g19,c19,a19,h1,h2,h1',h2',hl]
end Go.Am
end
section
set_option maxRecDepth 10000
set_option linter.unusedSimpArgs false
set_option linter.unusedVariables false
namespace Go.Am
open Go.Proofs Go.Sort Go.Shelf
theorem loopOkS0 (g : Gr) (D : Nat) (hD : D < g.length) (hg : g.length ≤ 60) : ∀ (rest done : List Mv),nth (encGs false false g) D = some (.sl false 2 ((done ++ rest).map mvP)) → (done ++ rest).length ≤ 9223372036854775807 →
    ∃ r,loopI G [1,3,4] [1] c27l0 ⟨[(1,.ref (0,1) 1 0 0),(3,.i D),(4,.i done.length)],[(1,.box [PV.sl false 1 (encGs false false g)])],[]⟩ = some r ∧
      ((rowOk g.length done.getLast? rest = false ∧ r = (.ret,⟨[(2,.b false)],[],[]⟩)) ∨ (rowOk g.length done.getLast? rest = true ∧ r = (.exit 2,⟨[(1,.ref (0,1) 1 0 0),(3,.i D),(4,.i (done ++ rest).length),(25,.b false)],[(1,.box [PV.sl false 1 (encGs false false g)])],[]⟩)))
  | [],done,hn,h => by
    have hlt : (D : Int) < g.length := by omega
    rw [loopI_eq]
    refine ⟨_, ?_,.inr ⟨rfl,rfl⟩⟩
    simp only [List.append_nil] at hn
    simp [r27l0,b27l0,hlt,hn]
  | x :: rest,done,hnD,h => by
    have hltD : (D : Int) < g.length := by omega
    have hlt : (done.length : Int) < (done.length : Int) + ((rest.length : Int) + 1) := by omega
    have hw : IntKind.i64.wrap ((done.length : Int) + 1) = (done.length : Int) + 1 := wr (by simp at h; omega)
    have hwg : IntKind.i64.wrap ((g.length : Int) - 1) = (g.length : Int) - 1 := wr (by omega)
    have hat := mv_at done x rest
    have ha := eqActS x.1
    have h6 := l6In x.2 0 ((g.length : Int) - 1)
    obtain ⟨r,hn,hr⟩ := loopOkS0 g D hD hg rest (done ++ [x]) (by simpa using hnD) (by simpa using h)
    have hgl : (done ++ [x]).getLast? = some x := by simp
    rw [hgl] at hr
    simp only [List.append_assoc,List.cons_append,List.nil_append,List.length_append,List.length_cons,List.length_nil,Int.natCast_add,show ((0 + 1 : Nat) : Int) = 1 from rfl,show ((1 : Nat) : Int) = 1 from rfl,List.map_append,List.map_cons,mvP] at hn hr hat hnD
    rw [loopI_eq]
    by_cases h1 : actOk x.1 = true
    · have h6b : (decide (0 ≤ x.2) && decide (x.2 ≤ (g.length : Int) - 1)) = (decide (0 ≤ x.2) && decide (x.2 < g.length)) := by
        congr 1
        exact decide_eq_decide.2 (by omega)
      rw [h6b] at h6
      by_cases h2 : (decide (0 ≤ x.2) && decide (x.2 < g.length)) = true
      · rw [h2] at h6
        have hm : mvOk g.length x = true := by unfold mvOk; rw [h1,h2]; rfl
        rcases last_cases done with ⟨hd,hl⟩ | ⟨d',p,hd,hl⟩
        · subst hd
          simp only [List.length_nil,List.nil_append,show ((0 : Nat) : Int) = 0 from rfl,List.map_nil,Int.zero_add] at hn hat hlt hw hr hnD ⊢
          refine ⟨r, ?_, ?_⟩
          · simp [r27l0,b27l0,hltD,hnD,hlt,hat,mvP,ha,h1,h6,hw,hwg]
            simpa [mvP] using hn
          · rcases hr with ⟨q1,q2⟩ | ⟨q1,q2⟩
            · exact .inl ⟨by simp [rowOk,prevOk,q1],q2⟩
            · exact .inr ⟨by simp [rowOk,prevOk,q1,hm],by simpa [mvP] using q2⟩
        · have hb := eqLess p x
          have hdl : (done.length : Int) = (d'.length : Int) + 1 := by rw [hd]; simp
          have hpos : 0 < (done.length : Int) := by omega
          have hne : done ≠ [] := by rw [hd]; simp
          have hwm : IntKind.i64.wrap ((done.length : Int) - 1) = d'.length := by rw [hdl,wr (by simp at h; omega)]; omega
          have hat2 : nth (done.map mvP ++ mvP x :: rest.map mvP) d'.length = some (mvP p) := by
            rw [hd]; simp only [List.map_append,List.map_cons,List.map_nil,List.append_assoc,List.cons_append,List.nil_append]
            exact at_D _ _ _ _ (by simp)
          have hlt2 : (d'.length : Int) < (done.length : Int) + ((rest.length : Int) + 1) := by omega
          simp only [mvP] at hb hat2
          cases hv : ltM p x with
          | false =>
            rw [hv] at hb
            refine ⟨_, ?_,.inl ⟨by rw [hl]; simp [rowOk,prevOk,hv],rfl⟩⟩
            simp [r27l0,b27l0,hltD,hnD,hlt,hat,mvP,ha,h1,h6,hwg,hpos,hne,hwm,hat2,hlt2,hb]
          | true =>
            rw [hv] at hb
            refine ⟨r, ?_, ?_⟩
            · simp [r27l0,b27l0,hltD,hnD,hlt,hat,mvP,ha,h1,h6,hwg,hpos,hne,hwm,hat2,hlt2,hb,hw]
              simpa [mvP] using hn
            · rw [hl]
              rcases hr with ⟨q1,q2⟩ | ⟨q1,q2⟩
              · exact .inl ⟨by simp [rowOk,prevOk,q1],q2⟩
              · exact .inr ⟨by simp [rowOk,prevOk,q1,hm,hv],by simpa [mvP] using q2⟩
      · have h2' : (decide (0 ≤ x.2) && decide (x.2 < g.length)) = false := by simpa using h2
        rw [h2'] at h6
        refine ⟨_, ?_,.inl ⟨by simp only [rowOk,mvOk,h2',Bool.and_false,Bool.false_and],rfl⟩⟩
        simp [r27l0,b27l0,hltD,hnD,hlt,hat,mvP,ha,h1,h6,hwg]
    · have h1' : actOk x.1 = false := by simpa using h1
      refine ⟨_, ?_,.inl ⟨by simp [rowOk,mvOk,h1'],rfl⟩⟩
      simp [r27l0,b27l0,hltD,hnD,hlt,hat,mvP,ha,h1']
theorem loopOkS1 (g : Gr) (hf : FitG g) (hg : g.length ≤ 60) : ∀ (rest done : Gr),g = done ++ rest →
    ∃ r,loopI G [1,3] [1] c27l1 ⟨[(1,.ref (0,1) 1 0 0),(3,.i done.length)],[(1,.box [PV.sl false 1 (encGs false false g)])],[]⟩ = some r ∧
      ((rest.all (rowOk g.length none) = false ∧ r = (.ret,⟨[(2,.b false)],[],[]⟩)) ∨ (rest.all (rowOk g.length none) = true ∧ ∃ s,r = (.exit 0,s) ∧ s.o = [] ∧ s.l = [(1,.box [PV.sl false 1 (encGs false false g)])]))
  | [],done,h => by
    rw [loopI_eq]
    have : done.length = g.length := by rw [h]; simp
    refine ⟨(.exit 0,⟨[(1,.ref (0,1) 1 0 0),(3,.i g.length),(15,.b false)],[(1,.box [PV.sl false 1 (encGs false false g)])],[]⟩), ?_,.inr ⟨rfl,_,rfl,rfl,rfl⟩⟩
    simp [r27l1,b27l1,this]
  | l :: rest,done,h => by
    have hD : done.length < g.length := by rw [h]; simp
    have hlt : (done.length : Int) < g.length := by omega
    have hw : IntKind.i64.wrap ((done.length : Int) + 1) = (done.length : Int) + 1 := wr (by omega)
    have hat : nth (encGs false false g) done.length = some (.sl false 2 (l.map mvP)) := by rw [h]; exact gr_at false false done l rest
    have hll : l.length ≤ 9223372036854775807 := hf.2 l (by rw [h]; simp)
    obtain ⟨r0,h0,hr0⟩ := loopOkS0 g done.length hD hg l [] (by simpa using hat) (by simpa using hll)
    obtain ⟨r,hn,hr⟩ := loopOkS1 g hf hg rest (done ++ [l]) (by rw [h]; simp)
    simp only [List.nil_append,List.length_nil,show ((0 : Nat) : Int) = 0 from rfl,List.getLast?_nil] at h0 hr0
    rw [loopI_eq]
    rcases hr0 with ⟨q1,q2⟩ | ⟨q1,q2⟩
    · subst q2
      refine ⟨_, ?_,.inl ⟨by simp [q1],rfl⟩⟩
      simp [r27l1,b27l1,hlt,h0]
    · subst q2
      refine ⟨r, ?_, ?_⟩
      · simp [r27l1,b27l1,hlt,h0,hw]
        simpa using hn
      · rcases hr with ⟨p1,p2⟩ | ⟨p1,p2⟩
        · exact .inl ⟨by simp only [List.all_cons,p1,Bool.and_false],p2⟩
        · exact .inr ⟨by simp only [List.all_cons,p1,q1,Bool.and_true],p2⟩
theorem eqOkS (g : Gr) (hf : FitG g) : callI G 27 [encG false false g] [] = some (.b (grOk g),[]) := by
  rw [callI_eq]
  unfold grOk
  have h6 := l6In g.length 1 60
  by_cases h1 : (1 : Int) ≤ g.length
  · have h1' : 1 ≤ g.length := by omega
    by_cases h2 : (g.length : Int) ≤ 60
    · have h2' : g.length ≤ 60 := by omega
      rw [decide_eq_true h1,decide_eq_true h2] at h6
      obtain ⟨r,hl,hr⟩ := loopOkS1 g hf h2' g [] rfl
      simp only [List.length_nil,show ((0 : Nat) : Int) = 0 from rfl,encM_f] at hl hr
      rcases hr with ⟨p1,p2⟩ | ⟨p1,s,p2,p3,p4⟩
      · subst p2
        simp only [p1]
        simp [body1_eq _ _ (gp 27) g27,c27,a27,h6,hl]
      · subst p2
        obtain ⟨sr,sl,so⟩ := s
        simp only at p3 p4
        subst p3 p4
        simp only [p1]
        simp [body1_eq _ _ (gp 27) g27,c27,a27,h6,h1',h2',hl]
    · have : ¬ g.length ≤ 60 := by omega
      rw [decide_eq_false h2] at h6
      simp [body1_eq _ _ (gp 27) g27,c27,a27,h6,this]
  · have : ¬ 1 ≤ g.length := by omega
    rw [decide_eq_false h1] at h6
    simp [body1_eq _ _ (gp 27) g27,c27,a27,h6,this]
end Go.Am
end
section
set_option maxRecDepth 10000
set_option linter.unusedSimpArgs false
set_option linter.unusedVariables false
namespace Go.Am
open Go.Proofs Go.Sort Go.Shelf
def ddup : Mv → List Mv → List Mv
  | _,[] => []
  | p,x :: l => if x = p then ddup p l else x :: ddup x l
def dd : List Mv → List Mv
  | [] => []
  | x :: l => x :: ddup x l
theorem ddup_len : ∀ (p : Mv) (l : List Mv),(ddup p l).length ≤ l.length
  | _,[] => Nat.le_refl _
  | p,x :: l => by
    simp only [ddup]
    split
    · have := ddup_len p l; simp; omega
    · have := ddup_len x l; simp; omega
theorem loopCp0 (id : Id) (N : Nat) (k0 : Nat) : ∀ (rest W M : List Mv) (p : Mv) (o : Stack),id.1 < o.length → getS o id = some (.row 2 ((W ++ (M ++ p :: rest)).map mvP)) → N = W.length + M.length + 1 + rest.length → N ≤ 4611686018427387904 → ∀ k2 : Nat,1 ≤ k2 → k0 + k2 = W.length + M.length + 1 →
    ∃ Z : List Mv,Z.length = N - (W ++ ddup p rest).length ∧ loopI G [0,3,4,5] [28] c69l0 ⟨[(0,.own id N),(3,.i W.length),(4,.sub id N k0),(5,.i k2)],[],o⟩ =
      some (.exit 2,⟨[(0,.own id N),(3,.i (W ++ ddup p rest).length),(4,.sub id N k0),(5,.i (k2 + rest.length)),(32,.b false)],[],setS o id (.row 2 (((W ++ ddup p rest) ++ Z).map mvP))⟩)
  | [],W,M,p,o,hid,hg,hN,hNN,k2,hk2,hk => by
    have hne : ¬ id.1 = o.length := by omega
    refine ⟨M ++ [p],by simp [ddup]; simp at hN; omega, ?_⟩
    have e2 : setS o id (.row 2 (((W ++ ddup p []) ++ (M ++ [p])).map mvP)) = o := setS_same o id _ (by simpa [ddup] using hg)
    rw [e2,loopI_eq]
    have hget : ∀ r l,St.get ⟨r,l,o⟩ id = some (.row 2 ((W ++ (M ++ [p])).map mvP)) := fun r l => by rw [get_low hid,hg]
    have hl : N = W.length + (M.length + 1) := by simp at hN; omega
    have hsub : N - k0 = k2 := by simp at hN; omega
    simp [-St.get,-St.set,r69l0,b69l0,hne,hget,← hl,hsub,ddup]
  | x :: rest,W,M,p,o,hid,hg,hN,hNN,k2,hk2,hk => by
    simp only [List.length_cons] at hN
    have hne : ¬ id.1 = o.length := by omega
    have hget : ∀ r l,St.get ⟨r,l,o⟩ id = some (.row 2 ((W ++ (M ++ p :: x :: rest)).map mvP)) := fun r l => by rw [get_low hid,hg]
    have hset : ∀ r l R,St.set ⟨r,l,o⟩ id R = ⟨r,l,setS o id R⟩ := fun r l R => set_low hid
    have hget2 : ∀ r l R,St.get ⟨r,l,setS o id R⟩ id = some R := fun r l R => by rw [get_low (by rw [setS_len]; exact hid),getS_setS hid]
    have hl : W.length + (M.length + (rest.length + 1 + 1)) = N := by omega
    have hlt : (k2 : Int) < ((N - k0 : Nat) : Int) := by omega
    have hlt2 : (k2 : Int) - 1 < ((N - k0 : Nat) : Int) := by omega
    have hge : (0 : Int) ≤ (k2 : Int) - 1 := by omega
    have htn : ((k2 : Int) - 1).toNat = k2 - 1 := by omega
    have hw : IntKind.i64.wrap ((k2 : Int) + 1) = (k2 : Int) + 1 := wr (by omega)
    have hw1 : IntKind.i64.wrap ((k2 : Int) - 1) = (k2 : Int) - 1 := wr (by omega)
    have hwW : IntKind.i64.wrap ((W.length : Int) + 1) = (W.length : Int) + 1 := wr (by omega)
    have hat : nth (W.map mvP ++ (M.map mvP ++ mvP p :: mvP x :: rest.map mvP)) (k0 + k2) = some (mvP x) := by
      have := at_D ((W ++ (M ++ [p])).map mvP) (mvP x) (rest.map mvP) (k0 + k2) (by simp; omega)
      simpa using this
    have hat1 : nth (W.map mvP ++ (M.map mvP ++ mvP p :: mvP x :: rest.map mvP)) (k0 + (k2 - 1)) = some (mvP p) := by
      have := at_D ((W ++ M).map mvP) (mvP p) ((x :: rest).map mvP) (k0 + (k2 - 1)) (by simp; omega)
      simpa using this
    have hlW : (W.length : Int) < N := by omega
    have hk1 : (1 : Int) ≤ k2 := by omega
    by_cases he : x = p
    · subst he
      obtain ⟨Z,hZ,hn⟩ := loopCp0 id N k0 rest W (M ++ [x]) x o hid (by simpa using hg) (by simp; omega) hNN (k2 + 1) (by omega) (by simp; omega)
      refine ⟨Z,by simpa [ddup] using hZ, ?_⟩
      simp only [Int.natCast_add,show ((1 : Nat) : Int) = 1 from rfl] at hn
      rw [loopI_eq]
      simp only [mvP] at hat hat1
      simp [-St.get,-St.set,r69l0,b69l0,mvP,hne,hget,hl,hk1,hlt,hlt2,hge,htn,hw,hw1,hat,hat1]
      simpa [ddup,Int.add_assoc,Int.add_comm 1] using hn
    · obtain ⟨M',hM',hrow⟩ : ∃ M' : List Mv,M'.length = M.length ∧ (W.map mvP ++ (M.map mvP ++ mvP p :: mvP x :: rest.map mvP)).set W.length (mvP x) = ((W ++ [x]) ++ (M' ++ x :: rest)).map mvP := by
        cases M with
        | nil =>
          refine ⟨[],rfl, ?_⟩
          rw [List.map_nil,List.nil_append,List.set_append_right _ _ (by simp)]
          simp
        | cons m M0 =>
          refine ⟨M0 ++ [p],by simp, ?_⟩
          rw [List.set_append_right _ _ (by simp)]
          simp
      have hatW : ∃ e,nth (W.map mvP ++ (M.map mvP ++ mvP p :: mvP x :: rest.map mvP)) W.length = some (mvP e) := by
        cases M with
        | nil => exact ⟨p,by have := at_D (W.map mvP) (mvP p) (mvP x :: rest.map mvP) W.length (by simp); simpa using this⟩
        | cons m M0 => exact ⟨m,by have := at_D (W.map mvP) (mvP m) (M0.map mvP ++ mvP p :: mvP x :: rest.map mvP) W.length (by simp); simpa using this⟩
      obtain ⟨e,hatW⟩ := hatW
      obtain ⟨Z,hZ,hn⟩ := loopCp0 id N k0 rest (W ++ [x]) M' x (setS o id (.row 2 (((W ++ [x]) ++ (M' ++ x :: rest)).map mvP))) (by rw [setS_len]; exact hid) (by rw [getS_setS hid]) (by simp; omega) hNN (k2 + 1) (by omega) (by simp; omega)
      rw [setS_setS] at hn
      have hdd : W ++ ddup p (x :: rest) = (W ++ [x]) ++ ddup x rest := by simp [ddup,he]
      refine ⟨Z,by rw [hdd]; exact hZ, ?_⟩
      rw [hdd]
      simp only [Int.natCast_add,show ((1 : Nat) : Int) = 1 from rfl] at hn
      rw [loopI_eq]
      have hxp : ¬ (x.1 = p.1 ∧ x.2 = p.2) := fun h => he (Prod.ext h.1 h.2)
      have hdec : (decide (x.1 = p.1) && decide (x.2 = p.2)) = false := by
        rw [← Bool.decide_and]; exact decide_eq_false hxp
      simp only [mvP] at hat hat1 hatW hrow
      simp [-St.get,-St.set,r69l0,b69l0,mvP,hne,hget,hset,hl,hk1,hlt,hlt2,hge,htn,hw,hw1,hwW,hat,hat1,hatW,hdec,hlW,unAgg,hrow,setS_len]
      simpa [mvP,Int.add_assoc,Int.add_comm 1,setS_len] using hn
theorem loopCp1 (id : Id) (N : Nat) : ∀ (rest done : List Mv) (p : Mv) (o : Stack),id.1 < o.length → getS o id = some (.row 2 ((done ++ p :: rest).map mvP)) → N = done.length + 1 + rest.length → N ≤ 4611686018427387904 →
    (ddup p rest = rest ∧ loopI G [0,3] [] c69l1 ⟨[(0,.own id N),(3,.i (done.length + 1))],[],o⟩ = some (.exit 0,⟨[(0,.own id N),(3,.i N),(13,.b false)],[],o⟩)) ∨
    loopI G [0,3] [] c69l1 ⟨[(0,.own id N),(3,.i (done.length + 1))],[],o⟩ = some (.ret,⟨[(2,.own (o.length,59) (done ++ p :: ddup p rest).length)],[(59,.row 2 ((done ++ p :: ddup p rest).map mvP))],setS o id .dead⟩)
  | [],done,p,o,hid,hg,hN,hNN => by
    refine .inl ⟨rfl, ?_⟩
    have hl : (done.length : Int) + 1 = N := by simp at hN; omega
    have hne : ¬ id.1 = o.length := by omega
    have hget : ∀ r l,St.get ⟨r,l,o⟩ id = some (.row 2 ((done ++ [p]).map mvP)) := fun r l => by rw [get_low hid,hg]
    have hln : N = done.length + 1 := by simpa using hN
    rw [hl,loopI_eq]
    simp [-St.get,-St.set,r69l1,b69l1,hne,hget,← hln]
  | x :: rest,done,p,o,hid,hg,hN,hNN => by
    simp only [List.length_cons] at hN
    have hne : ¬ id.1 = o.length := by omega
    have hget : ∀ r l,St.get ⟨r,l,o⟩ id = some (.row 2 ((done ++ p :: x :: rest).map mvP)) := fun r l => by rw [get_low hid,hg]
    have hset : ∀ r l R,St.set ⟨r,l,o⟩ id R = ⟨r,l,setS o id R⟩ := fun r l R => set_low hid
    have hget2 : ∀ r l R,St.get ⟨r,l,setS o id R⟩ id = some R := fun r l R => by rw [get_low (by rw [setS_len]; exact hid),getS_setS hid]
    have hlt : (done.length : Int) + 1 < N := by omega
    have hw : IntKind.i64.wrap ((done.length : Int) + 1 + 1) = (done.length : Int) + 1 + 1 := wr (by omega)
    have hw2 : IntKind.i64.wrap ((done.length : Int) + 2) = (done.length : Int) + 2 := wr (by omega)
    have hw1 : IntKind.i64.wrap ((done.length : Int) + 1 - 1) = (done.length : Int) := by rw [wr (by omega)]; omega
    have hw3 : IntKind.i64.wrap (done.length : Int) = (done.length : Int) := wr (by omega)
    have hlt0 : (done.length : Int) < N := by omega
    have hge0 : (0 : Int) ≤ (done.length : Int) + 1 := by omega
    have hle : (done.length : Int) + 1 ≤ N := by omega
    have hl : done.length + (rest.length + 1 + 1) = N := by omega
    have hat : nth (done.map mvP ++ mvP p :: mvP x :: rest.map mvP) (done.length + 1) = some (mvP x) := by
      have := at_D ((done ++ [p]).map mvP) (mvP x) (rest.map mvP) (done.length + 1) (by simp)
      simpa using this
    have hat1 : nth (done.map mvP ++ mvP p :: mvP x :: rest.map mvP) done.length = some (mvP p) := at_D _ _ _ _ (by simp)
    by_cases he : x = p
    · subst he
      refine .inr ?_
      obtain ⟨Z,hZ,hn⟩ := loopCp0 id N (done.length + 1) rest (done ++ [x]) [] x o hid (by simpa using hg) (by simp; omega) hNN 1 (by omega) (by simp)
      obtain ⟨K,hK⟩ : ∃ K,(done ++ [x]) ++ ddup x rest = K := ⟨_,rfl⟩
      have hK2 : done ++ x :: ddup x (x :: rest) = K := by rw [← hK]; simp [ddup]
      have hdl := ddup_len x rest
      have hKl : K.length ≤ N := by rw [← hK]; simp; omega
      rw [hK] at hn hZ
      obtain ⟨o2,ho2⟩ : ∃ o2,setS o id (.row 2 ((K ++ Z).map mvP)) = o2 := ⟨_,rfl⟩
      rw [ho2] at hn
      have hl2 : o2.length = o.length := by rw [← ho2,setS_len]
      have hget3 : ∀ r l,St.get ⟨r,l,o2⟩ id = some (.row 2 ((K ++ Z).map mvP)) := fun r l => by rw [← ho2]; exact hget2 _ _ _
      have hset3 : ∀ r l R,St.set ⟨r,l,o2⟩ id R = ⟨r,l,setS o id R⟩ := fun r l R => by rw [← ho2,set_low (by rw [setS_len]; exact hid),setS_setS]
      have hset4 : ∀ r l R R',St.set ⟨r,l,setS o id R'⟩ id R = ⟨r,l,setS o id R⟩ := fun r l R R' => by rw [set_low (by rw [setS_len]; exact hid),setS_setS]
      have hgl : ∀ r R,St.get ⟨r,[],setS o id R⟩ (o.length,59) = none := fun r R => by simp [St.get,setS_len,getO]
      have hsl : ∀ r R R',St.set ⟨r,[],setS o id R⟩ (o.length,59) R' = ⟨r,[(59,R')],setS o id R⟩ := fun r R R' => by simp [St.set,setS_len,setO]
      have hKZ : K.length + Z.length = N := by omega
      have hKN : N = K.length + (N - K.length) := by omega
      have hKi : (K.length : Int) ≤ N := by omega
      rw [hK2]
      simp only [List.length_append,List.length_cons,List.length_nil,Int.natCast_add,show ((0 + 1 : Nat) : Int) = 1 from rfl,show ((1 : Nat) : Int) = 1 from rfl] at hn
      rw [loopI_eq]
      simp only [mvP] at hat hat1
      simp [-St.get,-St.set,r69l1,b69l1,mvP,hne,hget,hl,hge0,hle,hlt,hlt0,hw,hw1,hw2,hw3,hat,hat1,hn,hl2,hget3,hset3,hset4,hget2,hKZ,hKi,setS_len,hgl,hsl]
      exact hKN
    · rcases loopCp1 id N rest (done ++ [p]) x o hid (by simpa using hg) (by simp; omega) hNN with ⟨hd,hn⟩ | hn
      · refine .inl ⟨by simp [ddup,he,hd], ?_⟩
        simp only [List.length_append,List.length_cons,List.length_nil,Int.natCast_add,show ((0 + 1 : Nat) : Int) = 1 from rfl,show ((1 : Nat) : Int) = 1 from rfl] at hn
        have hxp : ¬ (x.1 = p.1 ∧ x.2 = p.2) := fun h => he (Prod.ext h.1 h.2)
        have hdec : (decide (x.1 = p.1) && decide (x.2 = p.2)) = false := by
          rw [← Bool.decide_and]; exact decide_eq_false hxp
        rw [loopI_eq]
        simp only [mvP] at hat hat1
        simp [-St.get,-St.set,r69l1,b69l1,mvP,hne,hget,hl,hge0,hle,hlt,hlt0,hw,hw1,hw2,hw3,hat,hat1,hdec]
        simpa [Int.add_assoc] using hn
      · refine .inr ?_
        simp only [List.length_append,List.length_cons,List.length_nil,Int.natCast_add,show ((0 + 1 : Nat) : Int) = 1 from rfl,show ((1 : Nat) : Int) = 1 from rfl] at hn
        have hxp : ¬ (x.1 = p.1 ∧ x.2 = p.2) := fun h => he (Prod.ext h.1 h.2)
        have hdec : (decide (x.1 = p.1) && decide (x.2 = p.2)) = false := by
          rw [← Bool.decide_and]; exact decide_eq_false hxp
        rw [loopI_eq]
        simp only [mvP] at hat hat1
        simp [-St.get,-St.set,r69l1,b69l1,mvP,hne,hget,hl,hge0,hle,hlt,hlt0,hw,hw1,hw2,hw3,hat,hat1,hdec]
        have hlen : done.length + 1 + ((ddup x rest).length + 1) = done.length + ((ddup x rest).length + 1 + 1) := by omega
        simpa [ddup,he,Int.add_assoc,mvP,hlen] using hn
end Go.Am
end
section
set_option maxRecDepth 10000
set_option linter.unusedSimpArgs false
set_option linter.unusedVariables false
namespace Go.Am
open Go.Proofs Go.Sort Go.Shelf
theorem get_setS_top {r : Regs} {l : Objs} {o : Stack} {id : Id} {R : OB} {d : Nat} : St.get ⟨r,l,setS o id R⟩ (o.length,d) = getO l d := by simp [St.get,setS_len]
theorem set_setS_top {r : Regs} {l : Objs} {o : Stack} {id : Id} {R R' : OB} {d : Nat} : St.set ⟨r,l,setS o id R⟩ (o.length,d) R' = ⟨r,setO l d R',setS o id R⟩ := by simp [St.set,setS_len]
theorem eqCompact (id : Id) (l : List Mv) (o : Stack) (hid : id.1 < o.length) (hg : getS o id = some (.row 2 (l.map mvP))) (hN : l.length ≤ 4611686018427387904) :
    (dd l = l ∧ callI G 69 [.own id l.length] o = some (.own id l.length,o)) ∨ callI G 69 [.own id l.length] o = some (.sl true 2 ((dd l).map mvP),setS o id .dead) := by
  have hne : ¬ id.1 = o.length := by omega
  have hgl : ∀ r l R,St.get ⟨r,l,setS o id R⟩ (o.length,59) = getO l 59 := fun r l R => by simp [St.get,setS_len]
  have hget : ∀ r l',St.get ⟨r,l',o⟩ id = some (.row 2 (l.map mvP)) := fun r l' => by rw [get_low hid,hg]
  rw [callI_eq]
  match l,hg,hN,hget with
  | [],hg,hN,hget =>
    refine .inl ⟨rfl, ?_⟩
    simp [-St.get,-St.set,body1_eq _ _ (gp 69) g69,c69,a69,hne,hget,hid]
  | [x],hg,hN,hget =>
    refine .inl ⟨rfl, ?_⟩
    simp [-St.get,-St.set,body1_eq _ _ (gp 69) g69,c69,a69,hne,hget,hid]
  | x :: y :: l,hg,hN,hget =>
    have h2 : ¬ ((l.length : Int) + 1 + 1 < 2) := by omega
    rcases loopCp1 id (x :: y :: l).length (y :: l) [] x o hid (by simpa using hg) (by simp; omega) hN with ⟨hd,hn⟩ | hn
    · refine .inl ⟨by simp [dd,hd], ?_⟩
      simp only [List.length_cons,List.length_nil,Int.natCast_add,show ((0 : Nat) : Int) = 0 from rfl,show ((1 : Nat) : Int) = 1 from rfl,Int.zero_add] at hn
      simp [-St.get,-St.set,body1_eq _ _ (gp 69) g69,c69,a69,hne,hget,hid,h2,hn]
    · refine .inr ?_
      simp only [List.length_cons,List.length_nil,Int.natCast_add,show ((0 : Nat) : Int) = 0 from rfl,show ((1 : Nat) : Int) = 1 from rfl,Int.zero_add,List.nil_append] at hn
      simp [-St.get,-St.set,body1_eq _ _ (gp 69) g69,c69,a69,hne,hget,hid,h2,hn,dd,setS_len,hgl]
theorem eqCompactN (o : Stack) : callI G 69 [.nils] o = some (.nils,o) := by
  rw [callI_eq]
  simp [-St.get,-St.set,body1_eq _ _ (gp 69) g69,c69,a69]
def srtM (l : List Mv) : List Mv := l.mergeSort fun x y => !ltM y x
def tidyL (l : List Mv) : List Mv := dd (srtM l)
theorem eqTidy (id : Id) (l : List Mv) (o : Stack) (hid : id.1 < o.length) (hg : getS o id = some (.row 2 (l.map mvP))) (hN : l.length < 4611686018427387904) :
    (tidyL l = srtM l ∧ callI G 53 [.own id l.length] o = some (.own id l.length,setS o id (.row 2 ((tidyL l).map mvP)))) ∨ callI G 53 [.own id l.length] o = some (.sl true 2 ((tidyL l).map mvP),setS o id .dead) := by
  have hne : ¬ id.1 = o.length := by omega
  have hid2 : id.1 < (o ++ [[]]).length := by simp; omega
  have hS : sortP 39 ltM [.own id l.length,.clo 39 []] (o ++ [[]]) = some (.tup [],setS o id (.row 2 ((srtM l).map mvP)) ++ [[]]) := by
    simp [sortP,hN,getS_app _ _ _ hid,hg,unMs_map,setS_app _ _ _ _ hid]
    rfl
  have hsl : (srtM l).length = l.length := by simp [srtM]
  have hc := eqCompact id (srtM l) (setS o id (.row 2 ((srtM l).map mvP)) ++ [[]]) (by simp [setS_len]; omega) (by rw [getS_app _ _ _ (by rw [setS_len]; exact hid),getS_setS hid]) (by simp [srtM]; omega)
  rw [hsl,setS_app _ _ _ _ (by rw [setS_len]; exact hid),setS_setS] at hc
  rw [callI_eq]
  rcases hc with ⟨hd,hc⟩ | hc
  · refine .inl ⟨hd, ?_⟩
    rw [tidyL,hd]
    simp [-St.get,-St.set,body1_eq _ _ (gp 53) g53,c53,a53,hne,hid,eqSortM,hS,hc,setS_len]
  · refine .inr ?_
    simp [-St.get,-St.set,body1_eq _ _ (gp 53) g53,c53,a53,hne,hid,eqSortM,hS,hc,setS_len,tidyL,get_setS_top,set_setS_top]
theorem eqTidyN (o : Stack) : callI G 53 [.nils] o = some (.nils,o) := by
  have hS : sortP 39 ltM [.nils,.clo 39 []] [] = some (.tup [],[]) := by simp [sortP]
  rw [callI_eq]
  simp [-St.get,-St.set,body1_eq _ _ (gp 53) g53,c53,a53,eqSortM,hS,eqCompactN]
end Go.Am
end
