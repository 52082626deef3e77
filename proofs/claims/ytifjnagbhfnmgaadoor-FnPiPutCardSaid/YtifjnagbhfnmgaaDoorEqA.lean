/- What the functions that the law reaches compute. -/
import Derived.Test.YtifjnagbhfnmgaaDoorAnD
import Derived.IntWalk
import Derived.Ground.NamesProg
import Derived.Shelf.Lays
import Derived.Test.YtifjnagbhfnmgaaDoorProg
import Derived.Test.YtifjnagbhfnmgaaDoorCoA
import Derived.Shelf.Strconv.Itoa3
section
/- The reader of a code: its object, and what a byte's choice comes to. -/
set_option maxRecDepth 10000
set_option linter.unusedSimpArgs false
set_option linter.unusedVariables false
namespace Go.Am
/-- A byte. -/
def byV (n : Nat) : PV := .sc (.int .u8 n)
def byVs (B : List Nat) : List PV := B.map byV
/-- The reader's object: the code's bytes, and the place. -/
def rd (B : List Nat) (p : Int) : OB := .box [.sl false 1 (byVs B), .i p]
theorem byVs_len (B : List Nat) : (byVs B).length = B.length := by simp [byVs]
theorem byVs_at (B : List Nat) (k : Nat) (h : k < B.length) : nth (byVs B) k = some (byV B[k]) := by
  simp [nth, byVs, h]
theorem wrD {n : Int} (h : -9223372036854775808 ≤ n ∧ n ≤ 9223372036854775807) : IntKind.i64.wrap n = n := by
  simp only [IntKind.wrap, IntKind.bits, IntKind.signed]
  simp
  omega
@[simp] theorem b_xor (k : IntKind) (a b : Int) : bin .xor (.sc (.int k a)) (.sc (.int k b)) = some (.sc (.int k (bxor k a b))) := by simp [bin]
theorem bxor_nn (a b : Int) (ha : 0 ≤ a) (ha2 : a < 4611686018427387904) (hb : 0 ≤ b) (hb2 : b < 4611686018427387904) : 0 ≤ bxor .i64 a b ∧ bxor .i64 a b < 4611686018427387904 := by
  have h1 : (BitVec.ofInt 64 a ^^^ BitVec.ofInt 64 b).toNat < 2 ^ 62 := by
    rw [BitVec.toNat_xor]
    refine Nat.xor_lt_two_pow ?_ ?_
    · rw [BitVec.toNat_ofInt]; omega
    · rw [BitVec.toNat_ofInt]; omega
  have e : bxor .i64 a b = ((BitVec.ofInt 64 a ^^^ BitVec.ofInt 64 b).toNat : Int) := by
    unfold bxor
    show IntKind.i64.wrap ((BitVec.ofInt 64 a ^^^ BitVec.ofInt 64 b).toNat : Int) = _
    exact wrD (by omega)
  rw [e]
  omega
end Go.Am
end
section
/- The library's sort at this program, as the kit's tool lays it. -/
namespace Go.Proofs
open Go.Shelf
def Tryd.itoa_ren : Go.Shelf.Ren := ⟨fun | 171 => 59 | 243 => 63 | 246 => 64 | 283 => 65 | 284 => 66 | 285 => 67 | 286 => 68 | 129 => 70 | 317 => 69 | 318 => 71 | 319 => 72 | 320 => 73 | 337 => 74 | 338 => 75 | n => n, fun | 3 => 3 | 9 => 9 | 2 => 2 | 4 => 4 | 171 => 77 | 0 => 0 | 53 => 78 | 37 => 34 | 5 => 5 | 173 => 81 | 212 => 84 | 51 => 85 | 20 => 20 | 213 => 86 | 46 => 87 | 232 => 90 | 233 => 91 | n => n, fun | 17 => 0 | 18 => 1 | 19 => 2 | n => n⟩
theorem Tryd.itoa : Go.Proofs.Lays.n171 Tryd.prog Tryd.itoa_ren := {
  mixed := by kernel_rfl
  f129 := Tryd.func70.trans (congrArg some (by kernel_rfl))
  f171 := Tryd.func59.trans (congrArg some (by kernel_rfl))
  f243 := Tryd.func63.trans (congrArg some (by kernel_rfl))
  f246 := Tryd.func64.trans (congrArg some (by kernel_rfl))
  f283 := Tryd.func65.trans (congrArg some (by kernel_rfl))
  f284 := Tryd.func66.trans (congrArg some (by kernel_rfl))
  f285 := Tryd.func67.trans (congrArg some (by kernel_rfl))
  f286 := Tryd.func68.trans (congrArg some (by kernel_rfl))
  f317 := Tryd.func69.trans (congrArg some (by kernel_rfl))
  f318 := Tryd.func71.trans (congrArg some (by kernel_rfl))
  f319 := Tryd.func72.trans (congrArg some (by kernel_rfl))
  f320 := Tryd.func73.trans (congrArg some (by kernel_rfl))
  f337 := Tryd.func74.trans (congrArg some (by kernel_rfl))
  f338 := Tryd.func75.trans (congrArg some (by kernel_rfl))
  t0 := Tryd.underlying0
  a0 := Tryd.isAgg0
  z0 := Tryd.sizeOf0
  v0 := Tryd.zeroValue0
  t2 := Tryd.underlying2
  a2 := Tryd.isAgg2
  z2 := Tryd.sizeOf2
  v2 := Tryd.zeroValue2
  t3 := Tryd.underlying3
  a3 := Tryd.isAgg3
  z3 := Tryd.sizeOf3
  v3 := Tryd.zeroValue3
  t4 := Tryd.underlying4
  a4 := Tryd.isAgg4
  z4 := Tryd.sizeOf4
  v4 := Tryd.zeroValue4
  t5 := Tryd.underlying5
  a5 := Tryd.isAgg5
  z5 := Tryd.sizeOf5
  v5 := Tryd.zeroValue5
  t9 := Tryd.underlying9
  a9 := Tryd.isAgg9
  z9 := Tryd.sizeOf9
  v9 := Tryd.zeroValue9
  t20 := Tryd.underlying20
  a20 := Tryd.isAgg20
  z20 := Tryd.sizeOf20
  v20 := Tryd.zeroValue20
  t37 := Tryd.underlying34
  a37 := Tryd.isAgg34
  z37 := Tryd.sizeOf34
  v37 := Tryd.zeroValue34
  t46 := Tryd.underlying87
  a46 := Tryd.isAgg87
  z46 := Tryd.sizeOf87
  v46 := Tryd.zeroValue87
  t51 := Tryd.underlying85
  a51 := Tryd.isAgg85
  z51 := Tryd.sizeOf85
  v51 := Tryd.zeroValue85
  t53 := Tryd.underlying78
  a53 := Tryd.isAgg78
  z53 := Tryd.sizeOf78
  v53 := Tryd.zeroValue78
  t171 := Tryd.underlying77
  a171 := Tryd.isAgg77
  z171 := Tryd.sizeOf77
  v171 := Tryd.zeroValue77
  t173 := Tryd.underlying81
  a173 := Tryd.isAgg81
  z173 := Tryd.sizeOf81
  v173 := Tryd.zeroValue81
  t212 := Tryd.underlying84
  a212 := Tryd.isAgg84
  z212 := Tryd.sizeOf84
  v212 := Tryd.zeroValue84
  t213 := Tryd.underlying86
  a213 := Tryd.isAgg86
  z213 := Tryd.sizeOf86
  t232 := Tryd.underlying90
  a232 := Tryd.isAgg90
  z232 := Tryd.sizeOf90
  v232 := Tryd.zeroValue90
  t233 := Tryd.underlying91
  a233 := Tryd.isAgg91
  z233 := Tryd.sizeOf91
  v233 := Tryd.zeroValue91
  g17 := by kernel_rfl
  g18 := by kernel_rfl
  g19 := by kernel_rfl }
end Go.Proofs
end
section
set_option maxRecDepth 100000
set_option linter.unusedSimpArgs false
set_option linter.unusedVariables false
namespace Go.Am
open Go.Proofs Go.Shelf
def prims : Nat → Option (List PV → Stack → Option (PV × Stack))
  | 59 => some itoaP
  | _ => none
def G : Prog := ⟨codes, prims⟩
theorem gp (n : Nat) (h : prims n = none := by rfl) : G.prim n = none := h
theorem progOK : ProgOK Tryd.prog G := by
  refine ⟨progOK0.1, fun f af _ h => progOK0.code f af rfl h, fun f p h => ?_⟩
  simp only [G] at h
  unfold prims at h
  split at h
  · simp only [Option.some.injEq] at h
    subst h
    intro args o r o' e
    exact itoaP_good ⟨Tryd.f59, Tryd.func59, by kernel_rfl, by decide +kernel⟩ (fun i hi w => Any.strconv_Itoa_small Tryd.itoa i hi w) e
  · cases h
theorem callI_prim {G : Prog} {f : Nat} {p : List PV → Stack → Option (PV × Stack)} (h : G.prim f = some p) (args : List PV) (o : Stack) : callI G f args o = p args o := by
  rw [callI_eq]
  simp only [body1, h]
theorem eqItoa (args : List PV) (o : Stack) : callI G 59 args o = itoaP args o := callI_prim rfl args o
end Go.Am
end
section
set_option maxRecDepth 10000
set_option linter.unusedSimpArgs false
set_option linter.unusedVariables false
namespace Go.Am
open Go.Proofs
theorem bytes_of : ∀ (n : Nat) (css : List (List PV)), (∀ cs ∈ css, Ty Tryd.prog n 5 cs) → ∃ B : List Nat, css.map (mkE Tryd.prog 5) = byVs B ∧ B.length = css.length ∧ ∀ b ∈ B, b < 256
  | _, [], _ => ⟨[], rfl, rfl, fun b hb => by cases hb⟩
  | 0, cs :: css, h => (h cs List.mem_cons_self).elim
  | n + 1, cs :: css, h => by
    have h1 := h cs List.mem_cons_self
    simp only [Ty, Tryd.underlying5] at h1
    obtain ⟨b, rfl, hb⟩ := h1
    obtain ⟨B, h3, h4, h5⟩ := bytes_of (n + 1) css (fun c hc => h c (List.mem_cons_of_mem _ hc))
    have hb2 : 0 ≤ b ∧ b < 256 := by
      simp [Lit.wf, IntKind.min, IntKind.max, IntKind.bits, IntKind.signed] at hb
      omega
    refine ⟨b.toNat :: B, ?_, by simp [h4], fun x hx => ?_⟩
    · rw [List.map_cons, h3]
      have : ((b.toNat : Nat) : Int) = b := by omega
      simp [mkE, isAg, Tryd.underlying5, byVs, byV, this]
    · rcases List.mem_cons.1 hx with rfl | hx
      · omega
      · exact h5 x hx
theorem ty_bytes : ∀ (n : Nat) (x : PV), Ty Tryd.prog n 34 [x] → ∃ B : List Nat, x = .sl false 1 (byVs B) ∧ B.length ≤ 9223372036854775807 ∧ ∀ b ∈ B, b < 256
  | 0, _, h => h.elim
  | n + 1, x, h => by
    simp only [Ty, Tryd.underlying34] at h
    obtain ⟨css, e, hl, hc⟩ := h
    obtain ⟨B, h1, h2, h3⟩ := bytes_of n css hc
    rw [h1] at e
    refine ⟨B, ?_, by rw [h2]; exact hl, h3⟩
    have := List.cons.inj e
    rw [this.1, show Tryd.prog.cellsOf 5 = 1 from by kernel_rfl]
end Go.Am
end
section
set_option maxRecDepth 100000
set_option linter.unusedSimpArgs false
set_option linter.unusedVariables false
namespace Go.Am
open Go.Proofs
noncomputable def primsH : Nat → Option (List PV → Stack → Option (PV × Stack))
  | 22 => some (viaP G 22 (weak 4))
  | 17 => some (viaP G 17 (weak 4))
  | 18 => some (viaP G 18 (weak 4))
  | 12 => some (viaP G 12 (weak 4))
  | 10 => some (viaP G 10 (weak 4))
  | 15 => some (viaP G 15 (weak 4))
  | 20 => some (viaP G 20 (weak 4))
  | 24 => some (viaP G 24 (weak 4))
  | _ => none
noncomputable def H : Prog := ⟨codes, primsH⟩
theorem gpH (n : Nat) (h : primsH n = none := by rfl) : H.prim n = none := h
theorem progOKH : ProgOK Tryd.prog H := by
  refine ⟨progOK0.1, fun f af _ h => progOK0.code f af rfl h, fun f p h => ?_⟩
  simp only [H] at h
  unfold primsH at h
  split at h
  all_goals first
    | (simp only [Option.some.injEq] at h; subst h; intro args o r o' e; exact viaP_good progOK (reads_weak 4) e)
    | (cases h; done)
end Go.Am
end
section
set_option maxRecDepth 10000
set_option maxHeartbeats 4000000
set_option linter.unusedSimpArgs false
set_option linter.unusedVariables false
namespace Go.Am
open Go.Proofs
/-- A reader that has not come far. -/
structure RdrOK (B : List Nat) (p : Int) : Prop where
  len : B.length ≤ 2000
  by8 : ∀ b ∈ B, b < 256
  lo : 0 ≤ p
  hi : p ≤ 1000000000
theorem setS_top (o : Stack) (id : Id) (R : OB) (hid : id.1 < o.length) (r : Regs) (l : Objs) : St.get ⟨r, l, setS o id R⟩ id = some R := by
  rw [get_low (by rw [setS_len]; exact hid), getS_setS hid]
theorem setS_put (o : Stack) (id : Id) (R R' : OB) (hid : id.1 < o.length) (r : Regs) (l : Objs) : St.set ⟨r, l, setS o id R⟩ id R' = ⟨r, l, setS o id R'⟩ := by
  rw [set_low (by rw [setS_len]; exact hid), setS_setS]
theorem eqOpen (B : List Nat) (hB : B.length ≤ 9223372036854775807) : ∃ B', B'.length ≤ 2000 ∧ (∀ b ∈ B', b ∈ B) ∧ callI H 32 [.sl false 1 (byVs B)] [] = some (.bx [.sl false 1 (byVs B'), .i 0], []) := by
  by_cases h : (2000 : Int) < B.length
  · refine ⟨B.take 2000, by simp; omega, fun b hb => List.mem_of_mem_take hb, ?_⟩
    rw [callI_eq]
    have h2 : (2000 : Int) ≤ B.length := by omega
    simp [body1_eq _ _ (gpH 32) g32, c32, a32, byVs_len, h, h2]
    simp [byVs, List.map_take]
  · refine ⟨B, by omega, fun b hb => hb, ?_⟩
    rw [callI_eq]
    simp [body1_eq _ _ (gpH 32) g32, c32, a32, byVs_len, h]
theorem eqPick (o : Stack) (id : Id) (hid : id.1 < o.length) (B : List Nat) (p n : Int) (hr : RdrOK B p) (hn : 1 ≤ n) (hn2 : n ≤ 1000000000) :
    ∃ k, 0 ≤ k ∧ k < n ∧ callI H 48 [.ref id 1 0 0, .i n] (setS o id (rd B p)) = some (.i k, setS o id (rd B (p + 1))) := by
  obtain ⟨h1, h2, h3, h4⟩ := hr
  have hne : ¬ id.1 = (setS o id (rd B p)).length := by rw [setS_len]; omega
  have hne2 : ¬ id.1 = o.length := by omega
  have hg := fun (R : OB) r l => setS_top o id R hid r l
  have hs := fun (R R' : OB) r l => setS_put o id R R' hid r l
  have hw1 : IntKind.i64.wrap (p + 1) = p + 1 := wrD (by omega)
  have hw2 : IntKind.i64.wrap (p + 1 - 1) = p := by rw [wrD (by omega)]; omega
  have hw3 : IntKind.i64.wrap p = p := wrD (by omega)
  have hn0 : ¬ n < 1 := by omega
  have hn1 : ¬ n = 0 := by omega
  by_cases hB : B = []
  · subst hB
    refine ⟨0, by omega, by omega, ?_⟩
    rw [callI_eq]
    simp [-St.get, -St.set, body1_eq _ _ (gpH 48) g48, c48, a48, hne2, hg, hs, rd, byVs, hw1, hw2, hw3, hn0, setS_len]
  · have hBl : (byVs B).length = B.length := byVs_len B
    have hpos : 0 < B.length := List.length_pos_iff.2 hB
    have hl0 : ¬ (B.length : Int) = 0 := by omega
    by_cases hk : p < B.length
    · have hlt : p.toNat < B.length := by omega
      have hat := byVs_at B p.toNat hlt
      have hb := h2 _ (List.getElem_mem hlt)
      generalize B[p.toNat] = b at hat hb
      have hw4 : IntKind.i64.wrap (b : Int) = (b : Int) := wrD (by omega)
      have e1 : (b : Int).tmod n = (b : Int) % n := Int.tmod_eq_emod_of_nonneg (by omega)
      refine ⟨(b : Int) % n, Int.emod_nonneg _ (by omega), Int.emod_lt_of_pos _ (by omega), ?_⟩
      rw [callI_eq]
      simp [-St.get, -St.set, body1_eq _ _ (gpH 48) g48, c48, a48, hne2, hg, hs, rd, hBl, hl0, hw1, hw2, hw3, hw4, hn0, hn1, hk, h3, hat, byV, e1, hB, setS_len]
    · have hbyte : ∀ k : Int, 0 ≤ k → ∃ b : Nat, b < 256 ∧ nth (byVs B) (k.tmod B.length).toNat = some (byV b) ∧ 0 ≤ k.tmod B.length ∧ k.tmod B.length < B.length := by
        intro k hk0
        have e := Int.tmod_eq_emod_of_nonneg (b := (B.length : Int)) hk0
        have g1 := Int.emod_nonneg k hl0
        have g2 := Int.emod_lt_of_pos k (b := (B.length : Int)) (by omega)
        have hlt : (k.tmod B.length).toNat < B.length := by rw [e]; omega
        exact ⟨_, h2 _ (List.getElem_mem hlt), byVs_at B _ hlt, by rw [e]; exact g1, by rw [e]; exact g2⟩
      obtain ⟨b1, q1, q2, q3, q4⟩ := hbyte p h3
      obtain ⟨b2, r1, r2, r3, r4⟩ := hbyte (p * 7 + 3) (by omega)
      have d1 : p.tdiv B.length = p / B.length := Int.tdiv_eq_ediv_of_nonneg h3
      have d2 : 0 ≤ p / (B.length : Int) := Int.ediv_nonneg h3 (by omega)
      have d3 : p / (B.length : Int) ≤ p := Int.ediv_le_self _ h3
      have hw4 : IntKind.i64.wrap (b1 : Int) = b1 := wrD (by omega)
      have hw5 : IntKind.i64.wrap (b2 : Int) = b2 := wrD (by omega)
      have hw6 : IntKind.i64.wrap ((b1 : Int) * 131) = b1 * 131 := wrD (by omega)
      have hw7 : IntKind.i64.wrap ((b2 : Int) * 1117) = b2 * 1117 := wrD (by omega)
      have hw8 : IntKind.i64.wrap (p * 7) = p * 7 := wrD (by omega)
      have hw9 : IntKind.i64.wrap (p * 7 + 3) = p * 7 + 3 := wrD (by omega)
      have hw10 : IntKind.i64.wrap ((b1 : Int) * 131 + b2 * 1117) = b1 * 131 + b2 * 1117 := wrD (by omega)
      have hw11 : IntKind.i64.wrap (p * 29) = p * 29 := wrD (by omega)
      have hw12 : IntKind.i64.wrap ((b1 : Int) * 131 + b2 * 1117 + p * 29) = b1 * 131 + b2 * 1117 + p * 29 := wrD (by omega)
      have hw13 : IntKind.i64.wrap (p.tdiv B.length) = p.tdiv B.length := by rw [d1]; exact wrD (by omega)
      have hw14 : IntKind.i64.wrap (p.tdiv B.length * 53) = p.tdiv B.length * 53 := by rw [d1]; exact wrD (by omega)
      have hw15 : IntKind.i64.wrap ((b1 : Int) * 131 + b2 * 1117 + p * 29 + p.tdiv B.length * 53) = b1 * 131 + b2 * 1117 + p * 29 + p.tdiv B.length * 53 := by rw [d1]; exact wrD (by omega)
      have hX : 0 ≤ (b1 : Int) * 131 + b2 * 1117 + p * 29 + p.tdiv B.length * 53 ∧ (b1 : Int) * 131 + b2 * 1117 + p * 29 + p.tdiv B.length * 53 < 4611686018427387904 := by rw [d1]; omega
      generalize hXe : (b1 : Int) * 131 + b2 * 1117 + p * 29 + p.tdiv B.length * 53 = X at *
      have d4 : X.tdiv 64 = X / 64 := Int.tdiv_eq_ediv_of_nonneg hX.1
      have hw16 : IntKind.i64.wrap (X.tdiv 64) = X / 64 := by rw [d4]; exact wrD (by omega)
      obtain ⟨y1, y2⟩ := bxor_nn X (X / 64) hX.1 hX.2 (by omega) (by omega)
      have e1 : (bxor .i64 X (X / 64)).tmod n = bxor .i64 X (X / 64) % n := Int.tmod_eq_emod_of_nonneg y1
      refine ⟨bxor .i64 X (X / 64) % n, Int.emod_nonneg _ (by omega), Int.emod_lt_of_pos _ (by omega), ?_⟩
      rw [callI_eq]
      simp [-St.get, -St.set, body1_eq _ _ (gpH 48) g48, c48, a48, hne2, hg, hs, rd, hBl, hl0, hw1, hw2, hw3, hw4, hw5, hw6, hw7, hw8, hw9, hw10, hw11, hw12, hw13, hw14, hw15, hw16, hn0, hn1, hk, h3, q2, q3, q4, r2, r3, r4, byV, hXe, e1, hB, setS_len]
/-- A call of the reader's from a frame above. -/
theorem frC {f : Nat} {args : List PV} {o : Stack} {id : Id} {R R' : OB} {r : PV} (hid : id.1 < o.length) (h : callI H f args (setS (o ++ [[]]) id R) = some (r, setS (o ++ [[]]) id R')) : callI H f args (setS o id R ++ [[]]) = some (r, setS o id R' ++ [[]]) := by
  rw [setS_app _ _ _ _ hid, setS_app _ _ _ _ hid] at h
  exact h
theorem hidA {o : Stack} {id : Id} (hid : id.1 < o.length) : id.1 < (o ++ [([] : Objs)]).length := by simp; omega
theorem pickF (o : Stack) (id : Id) (hid : id.1 < o.length) (B : List Nat) (p n : Int) (hr : RdrOK B p) (hn : 1 ≤ n) (hn2 : n ≤ 1000000000) :
    ∃ k, 0 ≤ k ∧ k < n ∧ callI H 48 [.ref id 1 0 0, .i n] (setS o id (rd B p) ++ [[]]) = some (.i k, setS o id (rd B (p + 1)) ++ [[]]) := by
  obtain ⟨k, h1, h2, h3⟩ := eqPick (o ++ [[]]) id (hidA hid) B p n hr hn hn2
  exact ⟨k, h1, h2, frC hid h3⟩
theorem RdrOK.next {B : List Nat} {p q : Int} (h : RdrOK B p) (h1 : p ≤ q) (h2 : q ≤ 1000000000) : RdrOK B q := ⟨h.len, h.by8, by have := h.lo; omega, h2⟩
end Go.Am
end
section
set_option maxRecDepth 10000
set_option linter.unusedSimpArgs false
set_option linter.unusedVariables false
namespace Go.Am
open Go.Proofs
inductive Pi | mk (op x y : Int) (ps : List Pi)
mutual
def enc : Pi → PV
  | .mk o x y ps => .agg [.i o, .i x, .i y, .sl false 4 (encs ps)]
def encs : List Pi → List PV
  | [] => []
  | p :: ps => enc p :: encs ps
end
theorem encs_len : ∀ ps : List Pi, (encs ps).length = ps.length
  | [] => rfl
  | _ :: ps => by simp [encs, encs_len ps]
theorem encs_app : ∀ a b : List Pi, encs (a ++ b) = encs a ++ encs b
  | [], _ => rfl
  | _ :: a, b => by simp [encs, encs_app a b]
theorem encs_at (a : List Pi) (x : Pi) (b : List Pi) : nth (encs (a ++ x :: b)) a.length = some (enc x) := by
  unfold nth
  rw [encs_app, List.getElem?_append_right (by simp [encs_len])]
  simp [encs_len, encs]
mutual
/-- Lists of no more elements than memory holds. -/
def Fit : Pi → Prop
  | .mk _ _ _ ps => ps.length ≤ 9223372036854775807 ∧ Fits ps
def Fits : List Pi → Prop
  | [] => True
  | p :: ps => Fit p ∧ Fits ps
end
theorem wr {n : Int} (h : -9223372036854775808 ≤ n ∧ n ≤ 9223372036854775807) : IntKind.i64.wrap n = n := by
  simp only [IntKind.wrap, IntKind.bits, IntKind.signed]
  simp
  omega
end Go.Am
end
section
set_option maxRecDepth 10000
set_option maxHeartbeats 8000000
set_option linter.unusedSimpArgs false
set_option linter.unusedVariables false
namespace Go.Am
open Go.Proofs
/-! terms as they are drawn: what has no parts has a nil slice -/
mutual
def encV (u : Bool) : Pi → PV
  | .mk o x y ps => .agg [.i o, .i x, .i y, encW u ps]
def encW (u : Bool) : List Pi → PV
  | [] => .nils
  | p :: ps => .sl u 4 (encV u p :: encVs u ps)
def encVs (u : Bool) : List Pi → List PV
  | [] => []
  | p :: ps => encV u p :: encVs u ps
end
theorem encVs_len (u : Bool) : ∀ ps : List Pi, (encVs u ps).length = ps.length
  | [] => by simp [encVs]
  | _ :: ps => by simp [encVs, encVs_len u ps]
mutual
theorem weak_encV : ∀ p : Pi, weak 4 (encV false p) = enc p
  | .mk o x y ps => by
    simp only [encV, enc, weak, weaks]
    rw [weak_encW ps]
theorem weak_encW : ∀ ps : List Pi, weak 4 (encW false ps) = .sl false 4 (encs ps)
  | [] => by simp [encW, weak, encs]
  | p :: ps => by
    simp only [encW, weak, weaks, encs]
    rw [weak_encV p, weaks_encVs ps]
theorem weaks_encVs : ∀ ps : List Pi, weaks 4 (encVs false ps) = encs ps
  | [] => by simp [encVs, weaks, encs]
  | p :: ps => by
    simp only [encVs, weaks, encs]
    rw [weak_encV p, weaks_encVs ps]
end
mutual
theorem fal_encV : ∀ p : Pi, fal (encV true p) = encV false p
  | .mk o x y ps => by
    simp only [encV, fal, fals]
    rw [fal_encW ps]
theorem fal_encW : ∀ ps : List Pi, fal (encW true ps) = encW false ps
  | [] => by simp [encW, fal]
  | p :: ps => by
    simp only [encW, fal, fals]
    rw [fal_encV p, fals_encVs ps]
theorem fals_encVs : ∀ ps : List Pi, fals (encVs true ps) = encVs false ps
  | [] => by simp [encVs, fals]
  | p :: ps => by
    simp only [encVs, fals]
    rw [fal_encV p, fals_encVs ps]
end
mutual
/-- Numbers that fit. -/
def Nums : Pi → Prop
  | .mk o x y ps => (-9223372036854775808 ≤ o ∧ o ≤ 9223372036854775807) ∧ (-9223372036854775808 ≤ x ∧ x ≤ 9223372036854775807) ∧ (-9223372036854775808 ≤ y ∧ y ≤ 9223372036854775807) ∧ ps.length ≤ 2 ∧ Numss ps
def Numss : List Pi → Prop
  | [] => True
  | p :: ps => Nums p ∧ Numss ps
end
mutual
theorem Nums.fit : ∀ p : Pi, Nums p → Fit p
  | .mk o x y ps, h => ⟨by have := h.2.2.2.1; omega, Numss.fit ps h.2.2.2.2⟩
theorem Numss.fit : ∀ ps : List Pi, Numss ps → Fits ps
  | [], _ => trivial
  | p :: ps, h => ⟨Nums.fit p h.1, Numss.fit ps h.2⟩
end
theorem eqName (o : Stack) (id : Id) (hid : id.1 < o.length) (B : List Nat) (p : Int) (hr : RdrOK B p) (hp : p + 3 ≤ 1000000000) :
    ∃ k q, p ≤ q ∧ q ≤ p + 3 ∧ -1 ≤ k ∧ k ≤ 4611686018427387904 ∧ callI H 41 [.ref id 1 0 0] (setS o id (rd B p)) = some (.i k, setS o id (rd B q)) := by
  have hne2 : ¬ id.1 = o.length := by omega
  obtain ⟨k1, a1, a2, c1⟩ := pickF o id hid B p 60 hr (by omega) (by omega)
  by_cases h1 : k1 = 0
  · obtain ⟨k2, b1, b2, c2⟩ := pickF o id hid B (p + 1) 3 (hr.next (by omega) (by omega)) (by omega) (by omega)
    have hk : k2 = 0 ∨ k2 = 1 ∨ k2 = 2 := by omega
    rcases hk with rfl | rfl | rfl
    · refine ⟨-1, p + 1 + 1, by omega, by omega, by omega, by omega, ?_⟩
      rw [callI_eq]
      simp [body1_eq _ _ (gpH 41) g41, c41, a41, hne2, setS_len, c1, h1, c2]
    · refine ⟨30, p + 1 + 1, by omega, by omega, by omega, by omega, ?_⟩
      rw [callI_eq]
      simp [body1_eq _ _ (gpH 41) g41, c41, a41, hne2, setS_len, c1, h1, c2]
    · refine ⟨4611686018427387904, p + 1 + 1, by omega, by omega, by omega, by omega, ?_⟩
      rw [callI_eq]
      simp [body1_eq _ _ (gpH 41) g41, c41, a41, hne2, setS_len, c1, h1, c2]
  · obtain ⟨k2, b1, b2, c2⟩ := pickF o id hid B (p + 1) 25 (hr.next (by omega) (by omega)) (by omega) (by omega)
    by_cases h2 : k2 = 0
    · obtain ⟨k3, d1, d2, c3⟩ := pickF o id hid B (p + 1 + 1) 30 (hr.next (by omega) (by omega)) (by omega) (by omega)
      refine ⟨k3, p + 1 + 1 + 1, by omega, by omega, by omega, by omega, ?_⟩
      rw [callI_eq]
      simp [body1_eq _ _ (gpH 41) g41, c41, a41, hne2, setS_len, c1, h1, c2, h2, c3]
    · obtain ⟨k3, d1, d2, c3⟩ := pickF o id hid B (p + 1 + 1) 4 (hr.next (by omega) (by omega)) (by omega) (by omega)
      refine ⟨k3, p + 1 + 1 + 1, by omega, by omega, by omega, by omega, ?_⟩
      rw [callI_eq]
      simp [body1_eq _ _ (gpH 41) g41, c41, a41, hne2, setS_len, c1, h1, c2, h2, c3]
theorem nameF (o : Stack) (id : Id) (hid : id.1 < o.length) (B : List Nat) (p : Int) (hr : RdrOK B p) (hp : p + 3 ≤ 1000000000) :
    ∃ k q, p ≤ q ∧ q ≤ p + 3 ∧ -1 ≤ k ∧ k ≤ 4611686018427387904 ∧ callI H 41 [.ref id 1 0 0] (setS o id (rd B p) ++ [[]]) = some (.i k, setS o id (rd B q) ++ [[]]) := by
  obtain ⟨k, q, h1, h2, h3, h4, h5⟩ := eqName (o ++ [[]]) id (hidA hid) B p hr hp
  exact ⟨k, q, h1, h2, h3, h4, frC hid h5⟩
end Go.Am
end
section
set_option maxRecDepth 10000
set_option maxHeartbeats 16000000
set_option linter.unusedSimpArgs false
set_option linter.unusedVariables false
namespace Go.Am
open Go.Proofs
/-- How far a draw of a depth reads at most. -/
def dc : Nat → Int
  | 0 => 0
  | d + 1 => 7 + 2 * dc d
theorem dc_nn : ∀ d, 0 ≤ dc d
  | 0 => by simp [dc]
  | d + 1 => by have := dc_nn d; simp only [dc]; omega
theorem encV_two (t : Pi) : ∃ o x y ps, t = .mk o x y ps ∧ ((ps = [] ∧ encV true t = .agg [.i o, .i x, .i y, .nils]) ∨ (encV true t = .agg [.i o, .i x, .i y, .sl true 4 (encVs true ps)] ∧ encW true ps = .sl true 4 (encVs true ps))) := by
  obtain ⟨o, x, y, ps⟩ := t
  refine ⟨o, x, y, ps, rfl, ?_⟩
  cases ps with
  | nil => exact .inl ⟨rfl, rfl⟩
  | cons p ps => exact .inr ⟨by simp [encV, encW, encVs], by simp [encW, encVs]⟩
theorem eqMobile : ∀ (d : Nat) (o : Stack) (id : Id), id.1 < o.length → ∀ (B : List Nat) (p : Int), RdrOK B p → d ≤ 20 → p + dc d ≤ 1000000000 →
    ∃ t q, p ≤ q ∧ q ≤ p + dc d ∧ Nums t ∧ callI H 47 [.ref id 1 0 0, .i d] (setS o id (rd B p)) = some (encV true t, setS o id (rd B q))
  | 0, o, id, hid, B, p, hr, hd, hp => by
    refine ⟨.mk 0 0 0 [], p, by omega, by simp [dc], by simp [Nums, Numss], ?_⟩
    rw [callI_eq]
    simp [body1_eq _ _ (gpH 47) g47, c47, a47, encV, encW]
  | d + 1, o, id, hid, B, p, hr, hd, hp => by
    have hne2 : ¬ id.1 = o.length := by omega
    have hdn := dc_nn d
    have hdc : dc (d + 1) = 7 + 2 * dc d := rfl
    have hd0 : ¬ (d : Int) + 1 = 0 := by omega
    have hw : IntKind.i64.wrap ((d : Int) + 1 - 1) = d := by rw [wrD (by omega)]; omega
    have hw2 : IntKind.i64.wrap (d : Int) = d := wrD (by omega)
    have ih := fun q (hq : RdrOK B q) (h : q + dc d ≤ 1000000000) => eqMobile d (o ++ [[]]) id (hidA hid) B q hq (by omega) h
    have ih : ∀ q, RdrOK B q → q + dc d ≤ 1000000000 → ∃ t q', q ≤ q' ∧ q' ≤ q + dc d ∧ Nums t ∧ callI H 47 [.ref id 1 0 0, .i d] (setS o id (rd B q) ++ [[]]) = some (encV true t, setS o id (rd B q') ++ [[]]) := fun q hq h => by
      obtain ⟨t, q', e1, e2, e3, e4⟩ := ih q hq h
      exact ⟨t, q', e1, e2, e3, frC hid e4⟩
    obtain ⟨k, a1, a2, c1⟩ := pickF o id hid B p 12 hr (by omega) (by omega)
    -- two names and a part
    have two : ∃ x y t q1 q2 q3, p + 1 ≤ q1 ∧ q1 ≤ q2 ∧ q2 ≤ q3 ∧ q3 ≤ p + dc (d + 1) ∧ (-1 ≤ x ∧ x ≤ 4611686018427387904) ∧ (-1 ≤ y ∧ y ≤ 4611686018427387904) ∧ Nums t ∧
        callI H 41 [.ref id 1 0 0] (setS o id (rd B (p + 1)) ++ [[]]) = some (.i x, setS o id (rd B q1) ++ [[]]) ∧ callI H 41 [.ref id 1 0 0] (setS o id (rd B q1) ++ [[]]) = some (.i y, setS o id (rd B q2) ++ [[]]) ∧
        callI H 47 [.ref id 1 0 0, .i d] (setS o id (rd B q2) ++ [[]]) = some (encV true t, setS o id (rd B q3) ++ [[]]) := by
      obtain ⟨x, q1, e1, e2, e3, e4, e5⟩ := nameF o id hid B (p + 1) (hr.next (by omega) (by omega)) (by omega)
      obtain ⟨y, q2, f1, f2, f3, f4, f5⟩ := nameF o id hid B q1 (hr.next (by omega) (by omega)) (by omega)
      obtain ⟨t, q3, g1, g2, g3, g4⟩ := ih q2 (hr.next (by omega) (by omega)) (by omega)
      exact ⟨x, y, t, q1, q2, q3, e1, f1, g1, by omega, ⟨e3, e4⟩, ⟨f3, f4⟩, g3, e5, f5, g4⟩
    have one : ∃ t q1, p + 1 ≤ q1 ∧ q1 ≤ p + 1 + dc d ∧ Nums t ∧ callI H 47 [.ref id 1 0 0, .i d] (setS o id (rd B (p + 1)) ++ [[]]) = some (encV true t, setS o id (rd B q1) ++ [[]]) := ih (p + 1) (hr.next (by omega) (by omega)) (by omega)
    have pair : ∃ t u q1 q2, p + 1 ≤ q1 ∧ q1 ≤ q2 ∧ q2 ≤ p + dc (d + 1) ∧ Nums t ∧ Nums u ∧ callI H 47 [.ref id 1 0 0, .i d] (setS o id (rd B (p + 1)) ++ [[]]) = some (encV true t, setS o id (rd B q1) ++ [[]]) ∧
        callI H 47 [.ref id 1 0 0, .i d] (setS o id (rd B q1) ++ [[]]) = some (encV true u, setS o id (rd B q2) ++ [[]]) := by
      obtain ⟨t, q1, e1, e2, e3, e4⟩ := one
      obtain ⟨u, q2, f1, f2, f3, f4⟩ := ih q1 (hr.next (by omega) (by omega)) (by omega)
      exact ⟨t, u, q1, q2, e1, f1, by omega, e3, f3, e4, f4⟩
    have hk : k < 3 ∨ (3 ≤ k ∧ k < 6) ∨ k = 6 ∨ k = 7 ∨ k = 8 ∨ k = 9 ∨ k = 10 ∨ k = 11 := by omega
    rcases hk with h | h | h | h | h | h | h | h
    · obtain ⟨x, y, t, q1, q2, q3, e1, e2, e3, e4, e5, e6, e7, n1, n2, n3⟩ := two
      refine ⟨.mk 1 x y [t], q3, by omega, e4, ⟨by omega, by omega, by omega, by simp, e7, trivial⟩, ?_⟩
      rw [callI_eq]
      obtain ⟨to, tx, ty, tp, rfl, ⟨rfl, ht⟩ | ⟨ht, hE⟩⟩ := encV_two t <;>
        (simp only [encV, encW] ; rw [ht] at n3
         simp [body1_eq _ _ (gpH 47) g47, c47, a47, hne2, setS_len, hd0, hw, hw2, c1, h, n1, n2, n3, encVs_len, encVs]
         try exact hE.symm)
    · obtain ⟨x, y, t, q1, q2, q3, e1, e2, e3, e4, e5, e6, e7, n1, n2, n3⟩ := two
      refine ⟨.mk 2 x y [t], q3, by omega, e4, ⟨by omega, by omega, by omega, by simp, e7, trivial⟩, ?_⟩
      have h3 : ¬ k < 3 := by omega
      have h6 : k < 6 := by omega
      rw [callI_eq]
      obtain ⟨to, tx, ty, tp, rfl, ⟨rfl, ht⟩ | ⟨ht, hE⟩⟩ := encV_two t <;>
        (simp only [encV, encW] ; rw [ht] at n3
         simp [body1_eq _ _ (gpH 47) g47, c47, a47, hne2, setS_len, hd0, hw, hw2, c1, h3, h6, n1, n2, n3, encVs_len, encVs]
         try exact hE.symm)
    · obtain ⟨t, q1, e1, e2, e3, n3⟩ := one
      refine ⟨.mk 3 0 0 [t], q1, by omega, by omega, ⟨by omega, by omega, by omega, by simp, e3, trivial⟩, ?_⟩
      subst h
      rw [callI_eq]
      obtain ⟨to, tx, ty, tp, rfl, ⟨rfl, ht⟩ | ⟨ht, hE⟩⟩ := encV_two t <;>
        (simp only [encV, encW] ; rw [ht] at n3
         simp [body1_eq _ _ (gpH 47) g47, c47, a47, hne2, setS_len, hd0, hw, hw2, c1, n3, encVs_len, encVs]
         try exact hE.symm)
    · obtain ⟨t, u, q1, q2, e1, e2, e3, e4, e5, n1, n2⟩ := pair
      refine ⟨.mk 4 0 0 [t, u], q2, by omega, by omega, ⟨by omega, by omega, by omega, by simp, e4, e5, trivial⟩, ?_⟩
      subst h
      rw [callI_eq]
      obtain ⟨to, tx, ty, tp, rfl, ⟨rfl, ht⟩ | ⟨ht, hE⟩⟩ := encV_two t <;> obtain ⟨uo, ux, uy, up, rfl, ⟨rfl, hu⟩ | ⟨hu, hF⟩⟩ := encV_two u <;>
        (simp only [encV, encW] ; rw [ht] at n1; rw [hu] at n2
         simp [body1_eq _ _ (gpH 47) g47, c47, a47, hne2, setS_len, hd0, hw, hw2, c1, n1, n2, encVs_len, encVs]
         try simp only [encV, encW, hE, hF, and_self]
         try simp only [encV, encW, hE, and_self]
         try simp only [encV, encW, hF, and_self]
         try simp only [encV, encW])
    · obtain ⟨t, u, q1, q2, e1, e2, e3, e4, e5, n1, n2⟩ := pair
      refine ⟨.mk 5 0 0 [t, u], q2, by omega, by omega, ⟨by omega, by omega, by omega, by simp, e4, e5, trivial⟩, ?_⟩
      subst h
      rw [callI_eq]
      obtain ⟨to, tx, ty, tp, rfl, ⟨rfl, ht⟩ | ⟨ht, hE⟩⟩ := encV_two t <;> obtain ⟨uo, ux, uy, up, rfl, ⟨rfl, hu⟩ | ⟨hu, hF⟩⟩ := encV_two u <;>
        (simp only [encV, encW] ; rw [ht] at n1; rw [hu] at n2
         simp [body1_eq _ _ (gpH 47) g47, c47, a47, hne2, setS_len, hd0, hw, hw2, c1, n1, n2, encVs_len, encVs]
         try simp only [encV, encW, hE, hF, and_self]
         try simp only [encV, encW, hE, and_self]
         try simp only [encV, encW, hF, and_self]
         try simp only [encV, encW])
    · obtain ⟨t, u, q1, q2, e1, e2, e3, e4, e5, n1, n2⟩ := pair
      refine ⟨.mk 5 0 0 [t, u], q2, by omega, by omega, ⟨by omega, by omega, by omega, by simp, e4, e5, trivial⟩, ?_⟩
      subst h
      rw [callI_eq]
      obtain ⟨to, tx, ty, tp, rfl, ⟨rfl, ht⟩ | ⟨ht, hE⟩⟩ := encV_two t <;> obtain ⟨uo, ux, uy, up, rfl, ⟨rfl, hu⟩ | ⟨hu, hF⟩⟩ := encV_two u <;>
        (simp only [encV, encW] ; rw [ht] at n1; rw [hu] at n2
         simp [body1_eq _ _ (gpH 47) g47, c47, a47, hne2, setS_len, hd0, hw, hw2, c1, n1, n2, encVs_len, encVs]
         try simp only [encV, encW, hE, hF, and_self]
         try simp only [encV, encW, hE, and_self]
         try simp only [encV, encW, hF, and_self]
         try simp only [encV, encW])
    · subst h
      obtain ⟨x, q1, e1, e2, e3, e4, n1⟩ := nameF o id hid B (p + 1) (hr.next (by omega) (by omega)) (by omega)
      obtain ⟨y, b1, b2, n2⟩ := pickF o id hid B q1 3 (hr.next (by omega) (by omega)) (by omega) (by omega)
      obtain ⟨t, q3, g1, g2, g3, n3⟩ := ih (q1 + 1) (hr.next (by omega) (by omega)) (by omega)
      refine ⟨.mk 6 x y [t], q3, by omega, by omega, ⟨by omega, by omega, by omega, by simp, g3, trivial⟩, ?_⟩
      rw [callI_eq]
      obtain ⟨to, tx, ty, tp, rfl, ⟨rfl, ht⟩ | ⟨ht, hE⟩⟩ := encV_two t <;>
        (simp only [encV, encW] ; rw [ht] at n3
         simp [body1_eq _ _ (gpH 47) g47, c47, a47, hne2, setS_len, hd0, hw, hw2, c1, n1, n2, n3, encVs_len, encVs]
         try exact hE.symm)
    · obtain ⟨x, y, t, q1, q2, q3, e1, e2, e3, e4, e5, e6, e7, n1, n2, n3⟩ := two
      refine ⟨.mk 7 x y [t], q3, by omega, e4, ⟨by omega, by omega, by omega, by simp, e7, trivial⟩, ?_⟩
      subst h
      rw [callI_eq]
      obtain ⟨to, tx, ty, tp, rfl, ⟨rfl, ht⟩ | ⟨ht, hE⟩⟩ := encV_two t <;>
        (simp only [encV, encW] ; rw [ht] at n3
         simp [body1_eq _ _ (gpH 47) g47, c47, a47, hne2, setS_len, hd0, hw, hw2, c1, n1, n2, n3, encVs_len, encVs]
         try exact hE.symm)
theorem mobileF (d : Nat) (o : Stack) (id : Id) (hid : id.1 < o.length) (B : List Nat) (p : Int) (hr : RdrOK B p) (hd : d ≤ 20) (hp : p + dc d ≤ 1000000000) :
    ∃ t q, p ≤ q ∧ q ≤ p + dc d ∧ Nums t ∧ callI H 47 [.ref id 1 0 0, .i d] (setS o id (rd B p) ++ [[]]) = some (encV true t, setS o id (rd B q) ++ [[]]) := by
  obtain ⟨t, q, e1, e2, e3, e4⟩ := eqMobile d (o ++ [[]]) id (hidA hid) B p hr hd hp
  exact ⟨t, q, e1, e2, e3, frC hid e4⟩
end Go.Am
end
section
set_option maxRecDepth 10000
set_option maxHeartbeats 16000000
set_option linter.unusedSimpArgs false
set_option linter.unusedVariables false
namespace Go.Am
open Go.Proofs
theorem encW_one (t : Pi) : encW true [t] = .sl true 4 [encV true t] := by simp [encW, encVs]
theorem encW_two (t u : Pi) : encW true [t, u] = .sl true 4 [encV true t, encV true u] := by simp [encW, encVs]
theorem eqMeet (o : Stack) (id : Id) (hid : id.1 < o.length) (B : List Nat) (p : Int) (hr : RdrOK B p) (hp : p + 1000 ≤ 1000000000) :
    ∃ t q, p ≤ q ∧ q ≤ p + 1000 ∧ Nums t ∧ callI H 49 [.ref id 1 0 0] (setS o id (rd B p)) = some (encV true t, setS o id (rd B q)) := by
  have hne2 : ¬ id.1 = o.length := by omega
  obtain ⟨x, x1, x2, cx⟩ := pickF o id hid B p 3 hr (by omega) (by omega)
  obtain ⟨y, y1, y2, cy⟩ := pickF o id hid B (p + 1) 5 (hr.next (by omega) (by omega)) (by omega) (by omega)
  obtain ⟨z, z1, z2, cz⟩ := pickF o id hid B (p + 1 + 1) 5 (hr.next (by omega) (by omega)) (by omega) (by omega)
  obtain ⟨d1, d11, d12, cd1⟩ := pickF o id hid B (p + 1 + 1 + 1) 2 (hr.next (by omega) (by omega)) (by omega) (by omega)
  have dcv : dc 1 = 7 ∧ dc 2 = 21 := by decide
  have mob : ∀ (d : Int) (q : Int), 0 ≤ d → d < 2 → p ≤ q → q ≤ p + 500 → ∃ t q', q ≤ q' ∧ q' ≤ q + 21 ∧ Nums t ∧ callI H 47 [.ref id 1 0 0, .i (1 + d)] (setS o id (rd B q) ++ [[]]) = some (encV true t, setS o id (rd B q') ++ [[]]) := by
    intro d q h1 h2 h3 h4
    have hd : d = 0 ∨ d = 1 := by omega
    rcases hd with rfl | rfl
    · obtain ⟨t, q', e1, e2, e3, e4⟩ := mobileF 1 o id hid B q (hr.next (by omega) (by omega)) (by omega) (by omega)
      exact ⟨t, q', e1, by omega, e3, e4⟩
    · obtain ⟨t, q', e1, e2, e3, e4⟩ := mobileF 2 o id hid B q (hr.next (by omega) (by omega)) (by omega) (by omega)
      exact ⟨t, q', e1, by omega, e3, e4⟩
  have hw : ∀ d : Int, 0 ≤ d → d < 2 → IntKind.i64.wrap (1 + d) = 1 + d := fun d h1 h2 => wrD (by omega)
  have hw1 := hw d1 d11 d12
  obtain ⟨s, q1, s1, s2, ns, cs⟩ := mob d1 (p + 1 + 1 + 1 + 1) d11 d12 (by omega) (by omega)
  obtain ⟨d2, d21, d22, cd2⟩ := pickF o id hid B q1 2 (hr.next (by omega) (by omega)) (by omega) (by omega)
  have hw2 := hw d2 d21 d22
  obtain ⟨g, q2, g1, g2, ng, cg⟩ := mob d2 (q1 + 1) d21 d22 (by omega) (by omega)
  obtain ⟨k, k1, k2, ck⟩ := pickF o id hid B q2 4 (hr.next (by omega) (by omega)) (by omega) (by omega)
  obtain ⟨w, w1, w2, cw⟩ := pickF o id hid B (q2 + 1) 3 (hr.next (by omega) (by omega)) (by omega) (by omega)
  obtain ⟨v, v1, v2, cv⟩ := pickF o id hid B (q2 + 1) 2 (hr.next (by omega) (by omega)) (by omega) (by omega)
  obtain ⟨v', v1', v2', cv'⟩ := pickF o id hid B (q2 + 1 + 1) 2 (hr.next (by omega) (by omega)) (by omega) (by omega)
  have nS : Nums (.mk 1 x y [s]) := ⟨by omega, by omega, by omega, by simp, ns, trivial⟩
  have nG : Nums (.mk 2 x z [g]) := ⟨by omega, by omega, by omega, by simp, ng, trivial⟩
  have nN : Nums (.mk 6 y w [.mk 1 x y [s]]) := ⟨by omega, by omega, by omega, by simp, nS, trivial⟩
  have nT : Nums (.mk 4 0 0 [.mk 2 x z [g], .mk 3 0 0 [.mk 0 0 0 []]]) := by simp [Nums, Numss, ng]; omega
  have pr : ∀ {a b : Pi}, Nums a → Nums b → Nums (.mk 5 0 0 [a, b]) := fun ha hb => ⟨by omega, by omega, by omega, by simp, ha, hb, trivial⟩
  have hk : k = 0 ∨ k = 1 ∨ (¬ k = 0 ∧ ¬ k = 1) := by omega
  rcases hk with rfl | rfl | ⟨hk0, hk1⟩
  · by_cases hv : v' = 0
    · refine ⟨.mk 5 0 0 [.mk 6 y w [.mk 1 x y [s]], .mk 2 x z [g]], q2 + 1 + 1 + 1, by omega, by omega, pr nN nG, ?_⟩
      rw [callI_eq]
      obtain ⟨so, sx, sy, sp, rfl, ⟨rfl, hs⟩ | ⟨hs, hE⟩⟩ := encV_two s <;> obtain ⟨go, gx, gy, gq, rfl, ⟨rfl, hg⟩ | ⟨hg, hF⟩⟩ := encV_two g <;>
        (rw [hs] at cs; rw [hg] at cg
         simp [body1_eq _ _ (gpH 49) g49, c49, a49, hne2, setS_len, cx, cy, cz, cd1, cd2, hw1, hw2, cs, cg, ck, cw, cv', hv, encVs_len, encV, encW_one, encW_two, encVs, hs, hg]
         try simp only [encV, encW, hE, hF, and_self]
         try simp only [encV, encW, hE, and_self]
         try simp only [encV, encW, hF, and_self]
         try simp only [encV, encW])
    · refine ⟨.mk 5 0 0 [.mk 2 x z [g], .mk 6 y w [.mk 1 x y [s]]], q2 + 1 + 1 + 1, by omega, by omega, pr nG nN, ?_⟩
      rw [callI_eq]
      obtain ⟨so, sx, sy, sp, rfl, ⟨rfl, hs⟩ | ⟨hs, hE⟩⟩ := encV_two s <;> obtain ⟨go, gx, gy, gq, rfl, ⟨rfl, hg⟩ | ⟨hg, hF⟩⟩ := encV_two g <;>
        (rw [hs] at cs; rw [hg] at cg
         simp [body1_eq _ _ (gpH 49) g49, c49, a49, hne2, setS_len, cx, cy, cz, cd1, cd2, hw1, hw2, cs, cg, ck, cw, cv', hv, encVs_len, encV, encW_one, encW_two, encVs, hs, hg]
         try simp only [encV, encW, hE, hF, and_self]
         try simp only [encV, encW, hE, and_self]
         try simp only [encV, encW, hF, and_self]
         try simp only [encV, encW])
  · by_cases hv : v = 0
    · refine ⟨.mk 5 0 0 [.mk 1 x y [s], .mk 4 0 0 [.mk 2 x z [g], .mk 3 0 0 [.mk 0 0 0 []]]], q2 + 1 + 1, by omega, by omega, pr nS nT, ?_⟩
      rw [callI_eq]
      obtain ⟨so, sx, sy, sp, rfl, ⟨rfl, hs⟩ | ⟨hs, hE⟩⟩ := encV_two s <;> obtain ⟨go, gx, gy, gq, rfl, ⟨rfl, hg⟩ | ⟨hg, hF⟩⟩ := encV_two g <;>
        (rw [hs] at cs; rw [hg] at cg
         simp [body1_eq _ _ (gpH 49) g49, c49, a49, hne2, setS_len, cx, cy, cz, cd1, cd2, hw1, hw2, cs, cg, ck, cv, hv, encVs_len, encV, encW_one, encW_two, encVs, hs, hg]
         try simp only [encV, encW, hE, hF, and_self]
         try simp only [encV, encW, hE, and_self]
         try simp only [encV, encW, hF, and_self]
         try simp only [encV, encW])
    · refine ⟨.mk 5 0 0 [.mk 4 0 0 [.mk 2 x z [g], .mk 3 0 0 [.mk 0 0 0 []]], .mk 1 x y [s]], q2 + 1 + 1, by omega, by omega, pr nT nS, ?_⟩
      rw [callI_eq]
      obtain ⟨so, sx, sy, sp, rfl, ⟨rfl, hs⟩ | ⟨hs, hE⟩⟩ := encV_two s <;> obtain ⟨go, gx, gy, gq, rfl, ⟨rfl, hg⟩ | ⟨hg, hF⟩⟩ := encV_two g <;>
        (rw [hs] at cs; rw [hg] at cg
         simp [body1_eq _ _ (gpH 49) g49, c49, a49, hne2, setS_len, cx, cy, cz, cd1, cd2, hw1, hw2, cs, cg, ck, cv, hv, encVs_len, encV, encW_one, encW_two, encVs, hs, hg]
         try simp only [encV, encW, hE, hF, and_self]
         try simp only [encV, encW, hE, and_self]
         try simp only [encV, encW, hF, and_self]
         try simp only [encV, encW])
  · by_cases hv : v = 0
    · refine ⟨.mk 5 0 0 [.mk 1 x y [s], .mk 2 x z [g]], q2 + 1 + 1, by omega, by omega, pr nS nG, ?_⟩
      rw [callI_eq]
      obtain ⟨so, sx, sy, sp, rfl, ⟨rfl, hs⟩ | ⟨hs, hE⟩⟩ := encV_two s <;> obtain ⟨go, gx, gy, gq, rfl, ⟨rfl, hg⟩ | ⟨hg, hF⟩⟩ := encV_two g <;>
        (rw [hs] at cs; rw [hg] at cg
         simp [body1_eq _ _ (gpH 49) g49, c49, a49, hne2, setS_len, cx, cy, cz, cd1, cd2, hw1, hw2, cs, cg, ck, hk0, hk1, cv, hv, encVs_len, encV, encW_one, encW_two, encVs, hs, hg]
         try simp only [encV, encW, hE, hF, and_self]
         try simp only [encV, encW, hE, and_self]
         try simp only [encV, encW, hF, and_self]
         try simp only [encV, encW])
    · refine ⟨.mk 5 0 0 [.mk 2 x z [g], .mk 1 x y [s]], q2 + 1 + 1, by omega, by omega, pr nG nS, ?_⟩
      rw [callI_eq]
      obtain ⟨so, sx, sy, sp, rfl, ⟨rfl, hs⟩ | ⟨hs, hE⟩⟩ := encV_two s <;> obtain ⟨go, gx, gy, gq, rfl, ⟨rfl, hg⟩ | ⟨hg, hF⟩⟩ := encV_two g <;>
        (rw [hs] at cs; rw [hg] at cg
         simp [body1_eq _ _ (gpH 49) g49, c49, a49, hne2, setS_len, cx, cy, cz, cd1, cd2, hw1, hw2, cs, cg, ck, hk0, hk1, cv, hv, encVs_len, encV, encW_one, encW_two, encVs, hs, hg]
         try simp only [encV, encW, hE, hF, and_self]
         try simp only [encV, encW, hE, and_self]
         try simp only [encV, encW, hF, and_self]
         try simp only [encV, encW])
end Go.Am
end
section
set_option maxRecDepth 10000
set_option maxHeartbeats 16000000
set_option linter.unusedSimpArgs false
set_option linter.unusedVariables false
namespace Go.Am
open Go.Proofs
theorem meetF (o : Stack) (id : Id) (hid : id.1 < o.length) (B : List Nat) (p : Int) (hr : RdrOK B p) (hp : p + 1000 ≤ 1000000000) :
    ∃ t q, p ≤ q ∧ q ≤ p + 1000 ∧ Nums t ∧ callI H 49 [.ref id 1 0 0] (setS o id (rd B p) ++ [[]]) = some (encV true t, setS o id (rd B q) ++ [[]]) := by
  obtain ⟨t, q, e1, e2, e3, e4⟩ := eqMeet (o ++ [[]]) id (hidA hid) B p hr hp
  exact ⟨t, q, e1, e2, e3, frC hid e4⟩
theorem eqDrawPi (o : Stack) (id : Id) (hid : id.1 < o.length) (B : List Nat) (p : Int) (hr : RdrOK B p) (hp : p + 10000 ≤ 1000000000) :
    ∃ t q, p ≤ q ∧ q ≤ p + 10000 ∧ Nums t ∧ callI H 33 [.ref id 1 0 0] (setS o id (rd B p)) = some (encV true t, setS o id (rd B q)) := by
  have hne2 : ¬ id.1 = o.length := by omega
  obtain ⟨d, d1, d2, cd⟩ := pickF o id hid B p 4 hr (by omega) (by omega)
  have hw : IntKind.i64.wrap (1 + d) = 1 + d := wrD (by omega)
  have dcv : dc 1 = 7 ∧ dc 2 = 21 ∧ dc 3 = 49 ∧ dc 4 = 105 := by decide
  have mob : ∃ t q', p + 1 ≤ q' ∧ q' ≤ p + 1 + 105 ∧ Nums t ∧ callI H 47 [.ref id 1 0 0, .i (1 + d)] (setS o id (rd B (p + 1)) ++ [[]]) = some (encV true t, setS o id (rd B q') ++ [[]]) := by
    have hd : d = 0 ∨ d = 1 ∨ d = 2 ∨ d = 3 := by omega
    rcases hd with rfl | rfl | rfl | rfl
    · obtain ⟨t, q', e1, e2, e3, e4⟩ := mobileF 1 o id hid B (p + 1) (hr.next (by omega) (by omega)) (by omega) (by omega)
      exact ⟨t, q', e1, by omega, e3, e4⟩
    · obtain ⟨t, q', e1, e2, e3, e4⟩ := mobileF 2 o id hid B (p + 1) (hr.next (by omega) (by omega)) (by omega) (by omega)
      exact ⟨t, q', e1, by omega, e3, e4⟩
    · obtain ⟨t, q', e1, e2, e3, e4⟩ := mobileF 3 o id hid B (p + 1) (hr.next (by omega) (by omega)) (by omega) (by omega)
      exact ⟨t, q', e1, by omega, e3, e4⟩
    · obtain ⟨t, q', e1, e2, e3, e4⟩ := mobileF 4 o id hid B (p + 1) (hr.next (by omega) (by omega)) (by omega) (by omega)
      exact ⟨t, q', e1, by omega, e3, e4⟩
  obtain ⟨t, q1, t1, t2, nt, ct⟩ := mob
  obtain ⟨k, k1, k2, ck⟩ := pickF o id hid B q1 2 (hr.next (by omega) (by omega)) (by omega) (by omega)
  by_cases hk : k = 0
  · obtain ⟨u, q2, u1, u2, nu, cu⟩ := meetF o id hid B (q1 + 1) (hr.next (by omega) (by omega)) (by omega)
    obtain ⟨w, w1, w2, cw⟩ := pickF o id hid B q2 30 (hr.next (by omega) (by omega)) (by omega) (by omega)
    obtain ⟨x, x1, x2, cx⟩ := pickF o id hid B (q2 + 1) 10 (hr.next (by omega) (by omega)) (by omega) (by omega)
    obtain ⟨uo, ux, uy, up, rfl, hu⟩ := encV_two u
    obtain ⟨to, tx, ty, tp, rfl, ht⟩ := encV_two t
    by_cases hw0 : w = 0
    · refine ⟨.mk x ux uy up, q2 + 1 + 1, by omega, by omega, ⟨by omega, nu.2⟩, ?_⟩
      rw [callI_eq]
      rcases hu with ⟨rfl, hu⟩ | ⟨hu, hF⟩ <;> rcases ht with ⟨rfl, ht⟩ | ⟨ht, hE⟩ <;>
        (rw [hu] at cu; rw [ht] at ct
         simp [body1_eq _ _ (gpH 33) g33, c33, a33, hne2, setS_len, cd, hw, ct, ck, hk, cu, cw, hw0, cx, encVs_len, encV]
         try simp only [encW, hF, encVs]
         try simp only [encW])
    · refine ⟨.mk uo ux uy up, q2 + 1, by omega, by omega, nu, ?_⟩
      rw [callI_eq]
      rcases hu with ⟨rfl, hu⟩ | ⟨hu, hF⟩ <;> rcases ht with ⟨rfl, ht⟩ | ⟨ht, hE⟩ <;>
        (rw [hu] at cu; rw [ht] at ct
         simp [body1_eq _ _ (gpH 33) g33, c33, a33, hne2, setS_len, cd, hw, ct, ck, hk, cu, cw, hw0, cx, encVs_len, encV]
         try simp only [encW, hF, encVs]
         try simp only [encW])
  · obtain ⟨w, w1, w2, cw⟩ := pickF o id hid B (q1 + 1) 30 (hr.next (by omega) (by omega)) (by omega) (by omega)
    obtain ⟨x, x1, x2, cx⟩ := pickF o id hid B (q1 + 1 + 1) 10 (hr.next (by omega) (by omega)) (by omega) (by omega)
    obtain ⟨to, tx, ty, tp, rfl, ht⟩ := encV_two t
    by_cases hw0 : w = 0
    · refine ⟨.mk x tx ty tp, q1 + 1 + 1 + 1, by omega, by omega, ⟨by omega, nt.2⟩, ?_⟩
      rw [callI_eq]
      rcases ht with ⟨rfl, ht⟩ | ⟨ht, hE⟩ <;>
        (rw [ht] at ct
         simp [body1_eq _ _ (gpH 33) g33, c33, a33, hne2, setS_len, cd, hw, ct, ck, hk, cw, hw0, cx, encVs_len, encV]
         try simp only [encW, hE, encVs]
         try simp only [encW])
    · refine ⟨.mk to tx ty tp, q1 + 1 + 1, by omega, by omega, nt, ?_⟩
      rw [callI_eq]
      rcases ht with ⟨rfl, ht⟩ | ⟨ht, hE⟩ <;>
        (rw [ht] at ct
         simp [body1_eq _ _ (gpH 33) g33, c33, a33, hne2, setS_len, cd, hw, ct, ck, hk, cw, hw0, cx, encVs_len, encV]
         try simp only [encW, hE, encVs]
         try simp only [encW])
end Go.Am
end
section
set_option maxRecDepth 10000
set_option linter.unusedSimpArgs false
set_option linter.unusedVariables false
namespace Go.Am
open Go.Proofs
end Go.Am
end
section
set_option maxRecDepth 10000
set_option linter.unusedSimpArgs false
set_option linter.unusedVariables false
namespace Go.Am
open Go.Proofs
theorem piName (k : Int) : callI G 38 [.i k] [] = some (.b (decide (0 ≤ k) && decide (k < 30)), []) := by
  rw [callI_eq]
  by_cases h : 0 ≤ k <;> simp [body1_eq _ _ (gp 38) g38, c38, a38, h]
theorem l6In (a b c : Int) : callI G 36 [.i a, .i b, .i c] [] = some (.b (decide (b ≤ a) && decide (a ≤ c)), []) := by
  rw [callI_eq]
  by_cases h : b ≤ a <;> simp [body1_eq _ _ (gp 36) g36, c36, a36, h]
theorem l13Name (a : Int) : callI G 42 [.i a] [] = some (.b (decide (0 ≤ a) && decide (a ≤ 29)), []) := by
  rw [callI_eq]
  simp [body1_eq _ _ (gp 42) g42, c42, a42, l6In]
/-- The names of a term are as its kind wants them; how many parts it has. -/
def nm (k : Int) : Bool := decide (0 ≤ k) && decide (k ≤ 29)
def kindOK (o x y : Int) : Option (Bool × Nat) :=
  if o = 0 then some (decide (x = 0) && decide (y = 0), 0)
  else if o = 3 then some (decide (x = 0) && decide (y = 0), 1)
  else if o = 4 ∨ o = 5 then some (decide (x = 0) && decide (y = 0), 2)
  else if o = 6 then some ((nm x && nm y) && decide (y < 3), 1)
  else if o = 1 ∨ o = 2 ∨ o = 7 then some (nm x && nm y, 1)
  else none
mutual
def nodes : Pi → Int
  | .mk o x y ps => match kindOK o x y with
    | none => 0
    | some (ok, k) => if ok = true ∧ ps.length = k then nodesL ps 1 else 0
def nodesL : List Pi → Int → Int
  | [], n => n
  | p :: ps, n => if nodes p = 0 then 0 else nodesL ps (if n + nodes p < 1000 then n + nodes p else 1000)
end
theorem loop37 (o a b : Int) (rest : List Pi) (ih : ∀ x ∈ rest, callI G 37 [enc x] [] = some (.i (nodes x), []) ∧ 0 ≤ nodes x ∧ nodes x ≤ 1000) :
    ∀ (done : List Pi) (n : Int), (done ++ rest).length ≤ 9223372036854775807 → 1 ≤ n → n ≤ 1000 → ∀ m : Int, m = (done ++ rest).length →
      loopI G [1, 3, 5, 6] [1] c37l0 ⟨[(1, .ref (0, 1) 1 0 0), (3, .i m), (5, .i n), (6, .i done.length)], [(1, .box [.i o, .i a, .i b, .sl false 4 (encs (done ++ rest))])], []⟩ =
        if nodesL rest n = 0 then some (.ret, ⟨[(2, .i 0)], [], []⟩) else some (.exit 1, ⟨[(1, .ref (0, 1) 1 0 0), (3, .i m), (5, .i (nodesL rest n)), (6, .i m), (72, .b false)], [(1, .box [.i o, .i a, .i b, .sl false 4 (encs (done ++ rest))])], []⟩) := by
  induction rest with
  | nil =>
    intro done n h h0 h1 m hm
    have hn0 : ¬ n = 0 := by omega
    subst hm
    rw [loopI_eq]
    simp [r37l0, b37l0, encs_len, nodesL, hn0]
  | cons x rest ih2 =>
    intro done n h h0 h1 m hm
    rw [loopI_eq]
    obtain ⟨hc, hx0, hx1⟩ := ih x List.mem_cons_self
    have hat := encs_at done x rest
    have hlt : (done.length : Int) < m := by rw [hm]; simp; omega
    have hlt2 : (done.length : Int) < (done.length : Int) + ((rest.length : Int) + 1) := by omega
    have hw : IntKind.i64.wrap ((done.length : Int) + 1) = (done.length : Int) + 1 := wr (by simp at h; omega)
    have hw2 : IntKind.i64.wrap (n + nodes x) = n + nodes x := wr (by omega)
    by_cases hs : nodes x = 0
    · obtain ⟨o', a', b', ps⟩ := x
      simp only [enc] at hc hat
      simp [r37l0, b37l0, encs_len, hat, hlt, hlt2, hc, hw, hs, nodesL]
    · have hn := ih2 (fun y hy => ih y (List.mem_cons_of_mem _ hy)) (done ++ [x]) (if n + nodes x < 1000 then n + nodes x else 1000) (by simpa using h) (by split <;> omega) (by split <;> omega) m (by simpa using hm)
      obtain ⟨o', a', b', ps⟩ := x
      simp only [enc] at hc hat
      simp [r37l0, b37l0, encs_len, hat, hlt, hlt2, hc, hw, hw2, hs]
      simpa [nodesL, hs, Int.add_assoc] using hn
end Go.Am
end
section
set_option maxRecDepth 10000
set_option linter.unusedSimpArgs false
set_option linter.unusedVariables false
namespace Go.Am
open Go.Proofs
theorem b37_0 (x y : Int) (ps : List Pi) (hl : ps.length ≤ 9223372036854775807) (ih : ∀ p ∈ ps, callI G 37 [enc p] [] = some (.i (nodes p), []) ∧ 0 ≤ nodes p ∧ nodes p ≤ 1000) : callI G 37 [enc (.mk 0 x y ps)] [] = some (.i (nodes (.mk 0 x y ps)), []) := by
  have hlp := fun o x y => loop37 o x y ps ih [] 1 (by simpa using hl) (by omega) (by omega)
  simp only [List.nil_append, List.length_nil, show ((0 : Nat) : Int) = 0 from rfl] at hlp
  have hnm : ∀ a, callI G 42 [.i a] [] = some (.b (nm a), []) := fun a => l13Name a
  rw [callI_eq]
  by_cases hk : (ps.length : Int) = 0
  · have hk2 : ps.length = 0 := by omega
    simp [body1_eq _ _ (gp 37) g37, c37, a37, enc, hnm, encs_len, hlp, hk, nodes, kindOK, hk2]
    repeat' split
    all_goals (try simp_all)
    all_goals (try omega)
  · have hk2 : ¬ ps.length = 0 := by omega
    simp [body1_eq _ _ (gp 37) g37, c37, a37, enc, hnm, encs_len, hk, nodes, kindOK, hk2]
theorem b37_1 (x y : Int) (ps : List Pi) (hl : ps.length ≤ 9223372036854775807) (ih : ∀ p ∈ ps, callI G 37 [enc p] [] = some (.i (nodes p), []) ∧ 0 ≤ nodes p ∧ nodes p ≤ 1000) : callI G 37 [enc (.mk 1 x y ps)] [] = some (.i (nodes (.mk 1 x y ps)), []) := by
  have hlp := fun o x y => loop37 o x y ps ih [] 1 (by simpa using hl) (by omega) (by omega)
  simp only [List.nil_append, List.length_nil, show ((0 : Nat) : Int) = 0 from rfl] at hlp
  have hnm : ∀ a, callI G 42 [.i a] [] = some (.b (nm a), []) := fun a => l13Name a
  rw [callI_eq]
  by_cases hk : (ps.length : Int) = 1
  · have hk2 : ps.length = 1 := by omega
    simp [body1_eq _ _ (gp 37) g37, c37, a37, enc, hnm, encs_len, hlp, hk, nodes, kindOK, hk2]
    repeat' split
    all_goals (try simp_all)
    all_goals (try omega)
  · have hk2 : ¬ ps.length = 1 := by omega
    simp [body1_eq _ _ (gp 37) g37, c37, a37, enc, hnm, encs_len, hk, nodes, kindOK, hk2]
theorem b37_2 (x y : Int) (ps : List Pi) (hl : ps.length ≤ 9223372036854775807) (ih : ∀ p ∈ ps, callI G 37 [enc p] [] = some (.i (nodes p), []) ∧ 0 ≤ nodes p ∧ nodes p ≤ 1000) : callI G 37 [enc (.mk 2 x y ps)] [] = some (.i (nodes (.mk 2 x y ps)), []) := by
  have hlp := fun o x y => loop37 o x y ps ih [] 1 (by simpa using hl) (by omega) (by omega)
  simp only [List.nil_append, List.length_nil, show ((0 : Nat) : Int) = 0 from rfl] at hlp
  have hnm : ∀ a, callI G 42 [.i a] [] = some (.b (nm a), []) := fun a => l13Name a
  rw [callI_eq]
  by_cases hk : (ps.length : Int) = 1
  · have hk2 : ps.length = 1 := by omega
    simp [body1_eq _ _ (gp 37) g37, c37, a37, enc, hnm, encs_len, hlp, hk, nodes, kindOK, hk2]
    repeat' split
    all_goals (try simp_all)
    all_goals (try omega)
  · have hk2 : ¬ ps.length = 1 := by omega
    simp [body1_eq _ _ (gp 37) g37, c37, a37, enc, hnm, encs_len, hk, nodes, kindOK, hk2]
theorem b37_3 (x y : Int) (ps : List Pi) (hl : ps.length ≤ 9223372036854775807) (ih : ∀ p ∈ ps, callI G 37 [enc p] [] = some (.i (nodes p), []) ∧ 0 ≤ nodes p ∧ nodes p ≤ 1000) : callI G 37 [enc (.mk 3 x y ps)] [] = some (.i (nodes (.mk 3 x y ps)), []) := by
  have hlp := fun o x y => loop37 o x y ps ih [] 1 (by simpa using hl) (by omega) (by omega)
  simp only [List.nil_append, List.length_nil, show ((0 : Nat) : Int) = 0 from rfl] at hlp
  have hnm : ∀ a, callI G 42 [.i a] [] = some (.b (nm a), []) := fun a => l13Name a
  rw [callI_eq]
  by_cases hk : (ps.length : Int) = 1
  · have hk2 : ps.length = 1 := by omega
    simp [body1_eq _ _ (gp 37) g37, c37, a37, enc, hnm, encs_len, hlp, hk, nodes, kindOK, hk2]
    repeat' split
    all_goals (try simp_all)
    all_goals (try omega)
  · have hk2 : ¬ ps.length = 1 := by omega
    simp [body1_eq _ _ (gp 37) g37, c37, a37, enc, hnm, encs_len, hk, nodes, kindOK, hk2]
theorem b37_4 (x y : Int) (ps : List Pi) (hl : ps.length ≤ 9223372036854775807) (ih : ∀ p ∈ ps, callI G 37 [enc p] [] = some (.i (nodes p), []) ∧ 0 ≤ nodes p ∧ nodes p ≤ 1000) : callI G 37 [enc (.mk 4 x y ps)] [] = some (.i (nodes (.mk 4 x y ps)), []) := by
  have hlp := fun o x y => loop37 o x y ps ih [] 1 (by simpa using hl) (by omega) (by omega)
  simp only [List.nil_append, List.length_nil, show ((0 : Nat) : Int) = 0 from rfl] at hlp
  have hnm : ∀ a, callI G 42 [.i a] [] = some (.b (nm a), []) := fun a => l13Name a
  rw [callI_eq]
  by_cases hk : (ps.length : Int) = 2
  · have hk2 : ps.length = 2 := by omega
    simp [body1_eq _ _ (gp 37) g37, c37, a37, enc, hnm, encs_len, hlp, hk, nodes, kindOK, hk2]
    repeat' split
    all_goals (try simp_all)
    all_goals (try omega)
  · have hk2 : ¬ ps.length = 2 := by omega
    simp [body1_eq _ _ (gp 37) g37, c37, a37, enc, hnm, encs_len, hk, nodes, kindOK, hk2]
theorem b37_5 (x y : Int) (ps : List Pi) (hl : ps.length ≤ 9223372036854775807) (ih : ∀ p ∈ ps, callI G 37 [enc p] [] = some (.i (nodes p), []) ∧ 0 ≤ nodes p ∧ nodes p ≤ 1000) : callI G 37 [enc (.mk 5 x y ps)] [] = some (.i (nodes (.mk 5 x y ps)), []) := by
  have hlp := fun o x y => loop37 o x y ps ih [] 1 (by simpa using hl) (by omega) (by omega)
  simp only [List.nil_append, List.length_nil, show ((0 : Nat) : Int) = 0 from rfl] at hlp
  have hnm : ∀ a, callI G 42 [.i a] [] = some (.b (nm a), []) := fun a => l13Name a
  rw [callI_eq]
  by_cases hk : (ps.length : Int) = 2
  · have hk2 : ps.length = 2 := by omega
    simp [body1_eq _ _ (gp 37) g37, c37, a37, enc, hnm, encs_len, hlp, hk, nodes, kindOK, hk2]
    repeat' split
    all_goals (try simp_all)
    all_goals (try omega)
  · have hk2 : ¬ ps.length = 2 := by omega
    simp [body1_eq _ _ (gp 37) g37, c37, a37, enc, hnm, encs_len, hk, nodes, kindOK, hk2]
theorem b37_6 (x y : Int) (ps : List Pi) (hl : ps.length ≤ 9223372036854775807) (ih : ∀ p ∈ ps, callI G 37 [enc p] [] = some (.i (nodes p), []) ∧ 0 ≤ nodes p ∧ nodes p ≤ 1000) : callI G 37 [enc (.mk 6 x y ps)] [] = some (.i (nodes (.mk 6 x y ps)), []) := by
  have hlp := fun o x y => loop37 o x y ps ih [] 1 (by simpa using hl) (by omega) (by omega)
  simp only [List.nil_append, List.length_nil, show ((0 : Nat) : Int) = 0 from rfl] at hlp
  have hnm : ∀ a, callI G 42 [.i a] [] = some (.b (nm a), []) := fun a => l13Name a
  rw [callI_eq]
  by_cases hk : (ps.length : Int) = 1
  · have hk2 : ps.length = 1 := by omega
    simp [body1_eq _ _ (gp 37) g37, c37, a37, enc, hnm, encs_len, hlp, hk, nodes, kindOK, hk2]
    repeat' split
    all_goals (try simp_all)
    all_goals (try omega)
  · have hk2 : ¬ ps.length = 1 := by omega
    simp [body1_eq _ _ (gp 37) g37, c37, a37, enc, hnm, encs_len, hk, nodes, kindOK, hk2]
theorem b37_7 (x y : Int) (ps : List Pi) (hl : ps.length ≤ 9223372036854775807) (ih : ∀ p ∈ ps, callI G 37 [enc p] [] = some (.i (nodes p), []) ∧ 0 ≤ nodes p ∧ nodes p ≤ 1000) : callI G 37 [enc (.mk 7 x y ps)] [] = some (.i (nodes (.mk 7 x y ps)), []) := by
  have hlp := fun o x y => loop37 o x y ps ih [] 1 (by simpa using hl) (by omega) (by omega)
  simp only [List.nil_append, List.length_nil, show ((0 : Nat) : Int) = 0 from rfl] at hlp
  have hnm : ∀ a, callI G 42 [.i a] [] = some (.b (nm a), []) := fun a => l13Name a
  rw [callI_eq]
  by_cases hk : (ps.length : Int) = 1
  · have hk2 : ps.length = 1 := by omega
    simp [body1_eq _ _ (gp 37) g37, c37, a37, enc, hnm, encs_len, hlp, hk, nodes, kindOK, hk2]
    repeat' split
    all_goals (try simp_all)
    all_goals (try omega)
  · have hk2 : ¬ ps.length = 1 := by omega
    simp [body1_eq _ _ (gp 37) g37, c37, a37, enc, hnm, encs_len, hk, nodes, kindOK, hk2]
theorem b37_d (o x y : Int) (ps : List Pi) (h : ¬ o = 0 ∧ ¬ o = 1 ∧ ¬ o = 2 ∧ ¬ o = 3 ∧ ¬ o = 4 ∧ ¬ o = 5 ∧ ¬ o = 6 ∧ ¬ o = 7) : callI G 37 [enc (.mk o x y ps)] [] = some (.i (nodes (.mk o x y ps)), []) := by
  obtain ⟨h0, h1, h2, h3, h4, h5, h6, h7⟩ := h
  have hnm : ∀ a, callI G 42 [.i a] [] = some (.b (nm a), []) := fun a => l13Name a
  rw [callI_eq]
  simp [body1_eq _ _ (gp 37) g37, c37, a37, enc, hnm, nodes, kindOK, h0, h1, h2, h3, h4, h5, h6, h7]
theorem nodesL_le : ∀ (ps : List Pi) (n : Int), (∀ p ∈ ps, 0 ≤ nodes p ∧ nodes p ≤ 1000) → 0 ≤ n → n ≤ 1000 → 0 ≤ nodesL ps n ∧ nodesL ps n ≤ 1000
  | [], n, _, h0, h1 => by simp [nodesL]; omega
  | p :: ps, n, h, h0, h1 => by
    have hp := h p List.mem_cons_self
    simp only [nodesL]
    split
    · omega
    · exact nodesL_le ps _ (fun q hq => h q (List.mem_cons_of_mem _ hq)) (by split <;> omega) (by split <;> omega)
mutual
theorem nodes_le : ∀ p : Pi, 0 ≤ nodes p ∧ nodes p ≤ 1000
  | .mk o x y ps => by
    simp only [nodes]
    split
    · omega
    · split
      · exact nodesL_le ps 1 (nodes_les ps) (by omega) (by omega)
      · omega
theorem nodes_les : ∀ (ps : List Pi), ∀ p ∈ ps, 0 ≤ nodes p ∧ nodes p ≤ 1000
  | [], p, h => by cases h
  | q :: ps, p, h => by
    rcases List.mem_cons.1 h with h | h
    · rw [h]; exact nodes_le q
    · exact nodes_les ps p h
end
mutual
theorem eq37 : ∀ p : Pi, Fit p → callI G 37 [enc p] [] = some (.i (nodes p), [])
  | .mk o x y ps, hf => by
    have ih := fun p hp => And.intro (eq37s ps hf.2 p hp) (nodes_le p)
    by_cases h0 : o = 0
    · rw [h0]; exact b37_0 x y ps hf.1 ih
    by_cases h1 : o = 1
    · rw [h1]; exact b37_1 x y ps hf.1 ih
    by_cases h2 : o = 2
    · rw [h2]; exact b37_2 x y ps hf.1 ih
    by_cases h3 : o = 3
    · rw [h3]; exact b37_3 x y ps hf.1 ih
    by_cases h4 : o = 4
    · rw [h4]; exact b37_4 x y ps hf.1 ih
    by_cases h5 : o = 5
    · rw [h5]; exact b37_5 x y ps hf.1 ih
    by_cases h6 : o = 6
    · rw [h6]; exact b37_6 x y ps hf.1 ih
    by_cases h7 : o = 7
    · rw [h7]; exact b37_7 x y ps hf.1 ih
    exact b37_d o x y ps ⟨h0, h1, h2, h3, h4, h5, h6, h7⟩
theorem eq37s : ∀ (ps : List Pi), Fits ps → ∀ p ∈ ps, callI G 37 [enc p] [] = some (.i (nodes p), [])
  | [], _, p, h => by cases h
  | q :: ps, hf, p, h => by
    rcases List.mem_cons.1 h with h | h
    · rw [h]; exact eq37 q hf.1
    · exact eq37s ps hf.2 p h
end
theorem eq10 (p : Pi) (hf : Fit p) : callI G 18 [enc p] [] = some (.b (decide (1 ≤ nodes p) && decide (nodes p ≤ 14)), []) := by
  have h := eq37 p hf
  rw [callI_eq]
  obtain ⟨o, x, y, ps⟩ := p
  simp only [enc] at h
  simp [body1_eq _ _ (gp 18) g18, c18, a18, enc, h, l6In]
end Go.Am
end
section
set_option maxRecDepth 10000
set_option linter.unusedSimpArgs false
set_option linter.unusedVariables false
namespace Go.Am
open Go.Proofs
mutual
def pn : Pi → Int → Int
  | .mk _ _ _ ps, m => pnL ps 1 m
def pnL : List Pi → Int → Int → Int
  | [], n, _ => n
  | p :: ps, n, m => if m < n then n else pnL ps (n + pn p (m - n)) m
end
mutual
theorem pn_le : ∀ (p : Pi) (m : Int), 0 ≤ m → 1 ≤ pn p m ∧ pn p m ≤ m + 1
  | .mk _ _ _ ps, m, h => by simp only [pn]; exact pnL_le ps 1 m h (by omega) (by omega)
theorem pnL_le : ∀ (ps : List Pi) (n m : Int), 0 ≤ m → 1 ≤ n → n ≤ m + 1 → 1 ≤ pnL ps n m ∧ pnL ps n m ≤ m + 1
  | [], n, m, h, h1, h2 => by simp only [pnL]; omega
  | p :: ps, n, m, h, h1, h2 => by
    simp only [pnL]
    split
    · omega
    · have := pn_le p (m - n) (by omega)
      exact pnL_le ps _ m h (by omega) (by omega)
end
theorem loop39 (m : Int) (hm0 : 0 ≤ m) (hm : m ≤ 1000) (rest : List Pi) (ih : ∀ x ∈ rest, ∀ m : Int, 0 ≤ m → m ≤ 1000 → callI G 34 [enc x, .i m] [] = some (.i (pn x m), [])) :
    ∀ (done : List Pi) (n : Int), (done ++ rest).length ≤ 9223372036854775807 → 1 ≤ n → n ≤ m + 1 →
      ∃ r, loopI G [1, 5, 9, 10, 11] [] c34l0 ⟨[(1, .i m), (5, .i n), (9, .sl false 4 (encs (done ++ rest))), (10, .i (done ++ rest).length), (11, .i done.length)], [], []⟩ = some r ∧
        (r = (.ret, ⟨[(4, .i (pnL rest n m))], [], []⟩) ∨ r = (.exit 0, ⟨[(1, .i m), (5, .i (pnL rest n m)), (9, .sl false 4 (encs (done ++ rest))), (10, .i (done ++ rest).length), (11, .i (done ++ rest).length), (12, .b false)], [], []⟩)) := by
  induction rest with
  | nil =>
    intro done n h h0 h1
    rw [loopI_eq]
    simp [r34l0, b34l0, encs_len, pnL]
  | cons x rest ih2 =>
    intro done n h h0 h1
    rw [loopI_eq]
    have hat := encs_at done x rest
    have hlt2 : (done.length : Int) < (done.length : Int) + ((rest.length : Int) + 1) := by omega
    have hw : IntKind.i64.wrap ((done.length : Int) + 1) = (done.length : Int) + 1 := wr (by simp at h; omega)
    by_cases hs : m < n
    · obtain ⟨o', a', b', ps⟩ := x
      simp only [enc] at hat
      simp [r34l0, b34l0, encs_len, hat, hlt2, hw, hs, pnL]
    · have hc := ih x List.mem_cons_self (m - n) (by omega) (by omega)
      have hb := pn_le x (m - n) (by omega)
      have hw2 : IntKind.i64.wrap (n + pn x (m - n)) = n + pn x (m - n) := wr (by omega)
      have hw3 : IntKind.i64.wrap (m - n) = m - n := wr (by omega)
      have hn := ih2 (fun y hy => ih y (List.mem_cons_of_mem _ hy)) (done ++ [x]) (n + pn x (m - n)) (by simpa using h) (by omega) (by omega)
      obtain ⟨o', a', b', ps⟩ := x
      simp only [enc] at hc hat
      simp [r34l0, b34l0, encs_len, hat, hlt2, hc, hw, hw2, hw3, hs]
      simpa [pnL, hs, Int.add_assoc] using hn
mutual
theorem eq39 : ∀ p : Pi, Fit p → ∀ m : Int, 0 ≤ m → m ≤ 1000 → callI G 34 [enc p, .i m] [] = some (.i (pn p m), [])
  | .mk o x y ps, hf, m, h0, h1 => by
    obtain ⟨r, hl, hr⟩ := loop39 m h0 h1 ps (eq39s ps hf.2) [] 1 (by simpa using hf.1) (by omega) (by omega)
    simp only [List.nil_append, List.length_nil, show ((0 : Nat) : Int) = 0 from rfl] at hl hr
    rw [callI_eq]
    rcases hr with hr | hr <;> simp [body1_eq _ _ (gp 34) g34, c34, a34, enc, encs_len, hl, hr, pn]
theorem eq39s : ∀ ps : List Pi, Fits ps → ∀ p ∈ ps, ∀ m : Int, 0 ≤ m → m ≤ 1000 → callI G 34 [enc p, .i m] [] = some (.i (pn p m), [])
  | [], _, p, h => by cases h
  | q :: ps, hf, p, h => by
    rcases List.mem_cons.1 h with h | h
    · rw [h]; exact eq39 q hf.1
    · exact eq39s ps hf.2 p h
end
/-- slices.IndexFunc with a closure that holds nothing. -/
theorem loop73 (cf : Nat) (F : Pi → Bool) (rest : List Pi) (ih : ∀ x ∈ rest, callI G cf [enc x] [] = some (.b (F x), [])) :
    ∀ (done : List Pi), (done ++ rest).length ≤ 9223372036854775807 →
      ∃ r, loopI G [0, 1, 7, 8] [] c61l0 ⟨[(0, .sl false 4 (encs (done ++ rest))), (1, .clo cf []), (7, .i (done ++ rest).length), (8, .i done.length)], [], []⟩ = some r ∧
        ((rest.any F = true ∧ ∃ i : Int, 0 ≤ i ∧ r = (.ret, ⟨[(4, .i i)], [], []⟩)) ∨ (rest.any F = false ∧ r = (.exit 0, ⟨[(0, .sl false 4 (encs (done ++ rest))), (1, .clo cf []), (7, .i (done ++ rest).length), (8, .i (done ++ rest).length), (9, .b false)], [], []⟩))) := by
  induction rest with
  | nil =>
    intro done h
    rw [loopI_eq]
    simp [r61l0, b61l0, encs_len]
  | cons x rest ih2 =>
    intro done h
    rw [loopI_eq]
    have hat := encs_at done x rest
    have hlt2 : (done.length : Int) < (done.length : Int) + ((rest.length : Int) + 1) := by omega
    have hw : IntKind.i64.wrap ((done.length : Int) + 1) = (done.length : Int) + 1 := wr (by simp at h; omega)
    have hc := ih x List.mem_cons_self
    by_cases hs : F x = true
    · obtain ⟨o', a', b', ps⟩ := x
      simp only [enc] at hat hc
      simp [r61l0, b61l0, encs_len, hat, hlt2, hc, hw, hs]
    · have hs2 : F x = false := by simpa using hs
      have hn := ih2 (fun y hy => ih y (List.mem_cons_of_mem _ hy)) (done ++ [x]) (by simpa using h)
      obtain ⟨o', a', b', ps⟩ := x
      simp only [enc] at hc hat
      simp [r61l0, b61l0, encs_len, hat, hlt2, hc, hw, hs2]
      simpa [hs2, Int.add_assoc] using hn
theorem eq53 (cf : Nat) (F : Pi → Bool) (ps : List Pi) (hl : ps.length ≤ 9223372036854775807) (ih : ∀ x ∈ ps, callI G cf [enc x] [] = some (.b (F x), [])) : callI G 50 [.sl false 4 (encs ps), .clo cf []] [] = some (.b (ps.any F), []) := by
  have h73 : ∃ i : Int, (decide (0 ≤ i)) = ps.any F ∧ callI G 61 [.sl false 4 (encs ps), .clo cf []] [] = some (.i i, []) := by
    obtain ⟨r, hl, hr⟩ := loop73 cf F ps ih [] (by simpa using hl)
    simp only [List.nil_append, List.length_nil, show ((0 : Nat) : Int) = 0 from rfl] at hl hr
    rcases hr with ⟨ha, i, hi, hr⟩ | ⟨ha, hr⟩
    · refine ⟨i, by simp [ha, hi], ?_⟩
      rw [callI_eq]
      simp [body1_eq _ _ (gp 61) g61, c61, a61, encs_len, hl, hr]
    · refine ⟨-1, by simp [ha], ?_⟩
      rw [callI_eq]
      simp [body1_eq _ _ (gp 61) g61, c61, a61, encs_len, hl, hr]
  obtain ⟨i, hi, hc⟩ := h73
  rw [callI_eq]
  simp [body1_eq _ _ (gp 50) g50, c50, a50, hc, hi]
end Go.Am
end
