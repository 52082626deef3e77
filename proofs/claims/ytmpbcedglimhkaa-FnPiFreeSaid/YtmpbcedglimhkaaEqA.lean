/- What the functions that the law reaches compute. -/
import Derived.Test.YtmpbcedglimhkaaAnC
import Derived.IntWalk
import Derived.Test.YtmpbcedglimhkaaCoA
section
/- The reader of a code: its object, and what a byte's choice comes to. -/
set_option maxRecDepth 10000
set_option linter.unusedSimpArgs false
set_option linter.unusedVariables false
namespace Go.Am
/-- A byte. -/
def byV (n : Nat) : PV := .sc (.int .u8 n)
def byVs (B : List Nat) : List PV := B.map byV
/-- The reader's object: the code's bytes, and the place. -/
def rd (B : List Nat) (p : Int) : OB := .box [.sl false 1 (byVs B), .i p]
theorem byVs_len (B : List Nat) : (byVs B).length = B.length := by simp [byVs]
theorem byVs_at (B : List Nat) (k : Nat) (h : k < B.length) : nth (byVs B) k = some (byV B[k]) := by
  simp [nth, byVs, h]
theorem wrD {n : Int} (h : -9223372036854775808 ≤ n ∧ n ≤ 9223372036854775807) : IntKind.i64.wrap n = n := by
  simp only [IntKind.wrap, IntKind.bits, IntKind.signed]
  simp
  omega
@[simp] theorem b_xor (k : IntKind) (a b : Int) : bin .xor (.sc (.int k a)) (.sc (.int k b)) = some (.sc (.int k (bxor k a b))) := by simp [bin]
theorem bxor_nn (a b : Int) (ha : 0 ≤ a) (ha2 : a < 4611686018427387904) (hb : 0 ≤ b) (hb2 : b < 4611686018427387904) : 0 ≤ bxor .i64 a b ∧ bxor .i64 a b < 4611686018427387904 := by
  have h1 : (BitVec.ofInt 64 a ^^^ BitVec.ofInt 64 b).toNat < 2 ^ 62 := by
    rw [BitVec.toNat_xor]
    refine Nat.xor_lt_two_pow ?_ ?_
    · rw [BitVec.toNat_ofInt]; omega
    · rw [BitVec.toNat_ofInt]; omega
  have e : bxor .i64 a b = ((BitVec.ofInt 64 a ^^^ BitVec.ofInt 64 b).toNat : Int) := by
    unfold bxor
    show IntKind.i64.wrap ((BitVec.ofInt 64 a ^^^ BitVec.ofInt 64 b).toNat : Int) = _
    exact wrD (by omega)
  rw [e]
  omega
end Go.Am
end
section
set_option maxRecDepth 10000
set_option linter.unusedSimpArgs false
set_option linter.unusedVariables false
namespace Go.Am
open Go.Proofs
theorem bytes_of : ∀ (n : Nat) (css : List (List PV)), (∀ cs ∈ css, Ty Try.prog n 5 cs) → ∃ B : List Nat, css.map (mkE Try.prog 5) = byVs B ∧ B.length = css.length ∧ ∀ b ∈ B, b < 256
  | _, [], _ => ⟨[], rfl, rfl, fun b hb => by cases hb⟩
  | 0, cs :: css, h => (h cs List.mem_cons_self).elim
  | n + 1, cs :: css, h => by
    have h1 := h cs List.mem_cons_self
    simp only [Ty, Try.underlying5] at h1
    obtain ⟨b, rfl, hb⟩ := h1
    obtain ⟨B, h3, h4, h5⟩ := bytes_of (n + 1) css (fun c hc => h c (List.mem_cons_of_mem _ hc))
    have hb2 : 0 ≤ b ∧ b < 256 := by
      simp [Lit.wf, IntKind.min, IntKind.max, IntKind.bits, IntKind.signed] at hb
      omega
    refine ⟨b.toNat :: B, ?_, by simp [h4], fun x hx => ?_⟩
    · rw [List.map_cons, h3]
      have : ((b.toNat : Nat) : Int) = b := by omega
      simp [mkE, isAg, Try.underlying5, byVs, byV, this]
    · rcases List.mem_cons.1 hx with rfl | hx
      · omega
      · exact h5 x hx
theorem ty_bytes : ∀ (n : Nat) (x : PV), Ty Try.prog n 22 [x] → ∃ B : List Nat, x = .sl false 1 (byVs B) ∧ B.length ≤ 9223372036854775807 ∧ ∀ b ∈ B, b < 256
  | 0, _, h => h.elim
  | n + 1, x, h => by
    simp only [Ty, Try.underlying22] at h
    obtain ⟨css, e, hl, hc⟩ := h
    obtain ⟨B, h1, h2, h3⟩ := bytes_of n css hc
    rw [h1] at e
    refine ⟨B, ?_, by rw [h2]; exact hl, h3⟩
    have := List.cons.inj e
    rw [this.1, show Try.prog.cellsOf 5 = 1 from by kernel_rfl]
end Go.Am
end
section
/- A function of a machine, as a primitive of another one that hands it what its arguments may also be read as. -/
set_option linter.unusedSimpArgs false
set_option linter.unusedVariables false
namespace Go.Am
open Go.RowKit
/-- What a value may also be read as. -/
def Reads (t : PV → PV) : Prop := ∀ {c : Ctx} {S : Sto} {h : Hp} {x : PV} {v : Value}, RVal c S h x v → RVal c S h (t x) v
theorem Reads.all {t : PV → PV} (ht : Reads t) {c : Ctx} {S : Sto} {h : Hp} : ∀ {xs : List PV} {vs : List Value}, RVals c S h xs vs → RVals c S h (xs.map t) vs
  | [], vs, r => r
  | x :: xs, vs, r => by
    obtain ⟨v, ws, e, h1, h2⟩ := r
    exact ⟨v, ws, e, ht h1, ht.all h2⟩
theorem reads_weak (k : Nat) : Reads (weak k) := fun r => RVal_weak k r
theorem reads_comp {t u : PV → PV} (ht : Reads t) (hu : Reads u) : Reads (fun x => t (u x)) := fun r => ht (hu r)
/-- An aggregate of one nil slice. -/
def nil1 (k : Nat) : PV → PV
  | .agg [.nils] => .agg [.sl false k []]
  | x => x
theorem reads_nil1 (k : Nat) : Reads (nil1 k) := by
  intro c S h x v r
  unfold nil1
  split
  · have := RVal_weak k r
    simpa [weak, weaks] using this
  · exact r
noncomputable def viaP (G : Prog) (f : Nat) (t : PV → PV) (args : List PV) (o : Stack) : Option (PV × Stack) := callI G f (args.map t) o
theorem viaP_good {P : Program} {G : Prog} (ok : ProgOK P G) {f : Nat} {t : PV → PV} (ht : Reads t) {args : List PV} {o o' : Stack} {r : PV} (e : viaP G f t args o = some (r, o')) : Good P f args o r o' := by
  have hg := sound ok e
  exact ⟨hg.1, fun c fp w vals st hr => hg.2 c fp w vals st (ht.all hr)⟩
theorem callI_prim' {G : Prog} {f : Nat} {p : List PV → Stack → Option (PV × Stack)} (h : G.prim f = some p) (args : List PV) (o : Stack) : callI G f args o = p args o := by
  rw [callI_eq]
  simp only [body1, h]
end Go.Am
end
section
set_option maxRecDepth 100000
set_option linter.unusedSimpArgs false
set_option linter.unusedVariables false
namespace Go.Am
open Go.Proofs
noncomputable def primsH : Nat → Option (List PV → Stack → Option (PV × Stack))
  | 10 => some (viaP G 10 (weak 4))
  | 11 => some (viaP G 11 (weak 4))
  | 14 => some (viaP G 14 (weak 4))
  | _ => none
noncomputable def H : Prog := ⟨codes, primsH⟩
theorem gpH (n : Nat) (h : primsH n = none := by rfl) : H.prim n = none := h
theorem hprog : H.code = G.code := rfl
theorem progOKH : ProgOK Try.prog H := by
  refine ⟨progOK.1, fun f af _ h => progOK.code f af (gp f) h, fun f p h => ?_⟩
  simp only [H] at h
  unfold primsH at h
  split at h
  · simp only [Option.some.injEq] at h; subst h; intro args o r o' e; exact viaP_good progOK (reads_weak 4) e
  · simp only [Option.some.injEq] at h; subst h; intro args o r o' e; exact viaP_good progOK (reads_weak 4) e
  · simp only [Option.some.injEq] at h; subst h; intro args o r o' e; exact viaP_good progOK (reads_weak 4) e
  · cases h
end Go.Am
end
section
set_option maxRecDepth 10000
set_option maxHeartbeats 4000000
set_option linter.unusedSimpArgs false
set_option linter.unusedVariables false
namespace Go.Am
open Go.Proofs
/-- A reader that has not come far. -/
structure RdrOK (B : List Nat) (p : Int) : Prop where
  len : B.length ≤ 2000
  by8 : ∀ b ∈ B, b < 256
  lo : 0 ≤ p
  hi : p ≤ 1000000000
theorem setS_top (o : Stack) (id : Id) (R : OB) (hid : id.1 < o.length) (r : Regs) (l : Objs) : St.get ⟨r, l, setS o id R⟩ id = some R := by
  rw [get_low (by rw [setS_len]; exact hid), getS_setS hid]
theorem setS_put (o : Stack) (id : Id) (R R' : OB) (hid : id.1 < o.length) (r : Regs) (l : Objs) : St.set ⟨r, l, setS o id R⟩ id R' = ⟨r, l, setS o id R'⟩ := by
  rw [set_low (by rw [setS_len]; exact hid), setS_setS]
theorem eqOpen (B : List Nat) (hB : B.length ≤ 9223372036854775807) : ∃ B', B'.length ≤ 2000 ∧ (∀ b ∈ B', b ∈ B) ∧ callI H 36 [.sl false 1 (byVs B)] [] = some (.bx [.sl false 1 (byVs B'), .i 0], []) := by
  by_cases h : (2000 : Int) < B.length
  · refine ⟨B.take 2000, by simp; omega, fun b hb => List.mem_of_mem_take hb, ?_⟩
    rw [callI_eq]
    have h2 : (2000 : Int) ≤ B.length := by omega
    simp [body1_eq _ _ (gpH 36) g36, c36, a36, byVs_len, h, h2]
    simp [byVs, List.map_take]
  · refine ⟨B, by omega, fun b hb => hb, ?_⟩
    rw [callI_eq]
    simp [body1_eq _ _ (gpH 36) g36, c36, a36, byVs_len, h]
theorem eqPick (o : Stack) (id : Id) (hid : id.1 < o.length) (B : List Nat) (p n : Int) (hr : RdrOK B p) (hn : 1 ≤ n) (hn2 : n ≤ 1000000000) :
    ∃ k, 0 ≤ k ∧ k < n ∧ callI H 53 [.ref id 1 0 0, .i n] (setS o id (rd B p)) = some (.i k, setS o id (rd B (p + 1))) := by
  obtain ⟨h1, h2, h3, h4⟩ := hr
  have hne : ¬ id.1 = (setS o id (rd B p)).length := by rw [setS_len]; omega
  have hne2 : ¬ id.1 = o.length := by omega
  have hg := fun (R : OB) r l => setS_top o id R hid r l
  have hs := fun (R R' : OB) r l => setS_put o id R R' hid r l
  have hw1 : IntKind.i64.wrap (p + 1) = p + 1 := wrD (by omega)
  have hw2 : IntKind.i64.wrap (p + 1 - 1) = p := by rw [wrD (by omega)]; omega
  have hw3 : IntKind.i64.wrap p = p := wrD (by omega)
  have hn0 : ¬ n < 1 := by omega
  have hn1 : ¬ n = 0 := by omega
  by_cases hB : B = []
  · subst hB
    refine ⟨0, by omega, by omega, ?_⟩
    rw [callI_eq]
    simp [-St.get, -St.set, body1_eq _ _ (gpH 53) g53, c53, a53, hne2, hg, hs, rd, byVs, hw1, hw2, hw3, hn0, setS_len]
  · have hBl : (byVs B).length = B.length := byVs_len B
    have hpos : 0 < B.length := List.length_pos_iff.2 hB
    have hl0 : ¬ (B.length : Int) = 0 := by omega
    by_cases hk : p < B.length
    · have hlt : p.toNat < B.length := by omega
      have hat := byVs_at B p.toNat hlt
      have hb := h2 _ (List.getElem_mem hlt)
      generalize B[p.toNat] = b at hat hb
      have hw4 : IntKind.i64.wrap (b : Int) = (b : Int) := wrD (by omega)
      have e1 : (b : Int).tmod n = (b : Int) % n := Int.tmod_eq_emod_of_nonneg (by omega)
      refine ⟨(b : Int) % n, Int.emod_nonneg _ (by omega), Int.emod_lt_of_pos _ (by omega), ?_⟩
      rw [callI_eq]
      simp [-St.get, -St.set, body1_eq _ _ (gpH 53) g53, c53, a53, hne2, hg, hs, rd, hBl, hl0, hw1, hw2, hw3, hw4, hn0, hn1, hk, h3, hat, byV, e1, hB, setS_len]
    · have hbyte : ∀ k : Int, 0 ≤ k → ∃ b : Nat, b < 256 ∧ nth (byVs B) (k.tmod B.length).toNat = some (byV b) ∧ 0 ≤ k.tmod B.length ∧ k.tmod B.length < B.length := by
        intro k hk0
        have e := Int.tmod_eq_emod_of_nonneg (b := (B.length : Int)) hk0
        have g1 := Int.emod_nonneg k hl0
        have g2 := Int.emod_lt_of_pos k (b := (B.length : Int)) (by omega)
        have hlt : (k.tmod B.length).toNat < B.length := by rw [e]; omega
        exact ⟨_, h2 _ (List.getElem_mem hlt), byVs_at B _ hlt, by rw [e]; exact g1, by rw [e]; exact g2⟩
      obtain ⟨b1, q1, q2, q3, q4⟩ := hbyte p h3
      obtain ⟨b2, r1, r2, r3, r4⟩ := hbyte (p * 7 + 3) (by omega)
      have d1 : p.tdiv B.length = p / B.length := Int.tdiv_eq_ediv_of_nonneg h3
      have d2 : 0 ≤ p / (B.length : Int) := Int.ediv_nonneg h3 (by omega)
      have d3 : p / (B.length : Int) ≤ p := Int.ediv_le_self _ h3
      have hw4 : IntKind.i64.wrap (b1 : Int) = b1 := wrD (by omega)
      have hw5 : IntKind.i64.wrap (b2 : Int) = b2 := wrD (by omega)
      have hw6 : IntKind.i64.wrap ((b1 : Int) * 131) = b1 * 131 := wrD (by omega)
      have hw7 : IntKind.i64.wrap ((b2 : Int) * 1117) = b2 * 1117 := wrD (by omega)
      have hw8 : IntKind.i64.wrap (p * 7) = p * 7 := wrD (by omega)
      have hw9 : IntKind.i64.wrap (p * 7 + 3) = p * 7 + 3 := wrD (by omega)
      have hw10 : IntKind.i64.wrap ((b1 : Int) * 131 + b2 * 1117) = b1 * 131 + b2 * 1117 := wrD (by omega)
      have hw11 : IntKind.i64.wrap (p * 29) = p * 29 := wrD (by omega)
      have hw12 : IntKind.i64.wrap ((b1 : Int) * 131 + b2 * 1117 + p * 29) = b1 * 131 + b2 * 1117 + p * 29 := wrD (by omega)
      have hw13 : IntKind.i64.wrap (p.tdiv B.length) = p.tdiv B.length := by rw [d1]; exact wrD (by omega)
      have hw14 : IntKind.i64.wrap (p.tdiv B.length * 53) = p.tdiv B.length * 53 := by rw [d1]; exact wrD (by omega)
      have hw15 : IntKind.i64.wrap ((b1 : Int) * 131 + b2 * 1117 + p * 29 + p.tdiv B.length * 53) = b1 * 131 + b2 * 1117 + p * 29 + p.tdiv B.length * 53 := by rw [d1]; exact wrD (by omega)
      have hX : 0 ≤ (b1 : Int) * 131 + b2 * 1117 + p * 29 + p.tdiv B.length * 53 ∧ (b1 : Int) * 131 + b2 * 1117 + p * 29 + p.tdiv B.length * 53 < 4611686018427387904 := by rw [d1]; omega
      generalize hXe : (b1 : Int) * 131 + b2 * 1117 + p * 29 + p.tdiv B.length * 53 = X at *
      have d4 : X.tdiv 64 = X / 64 := Int.tdiv_eq_ediv_of_nonneg hX.1
      have hw16 : IntKind.i64.wrap (X.tdiv 64) = X / 64 := by rw [d4]; exact wrD (by omega)
      obtain ⟨y1, y2⟩ := bxor_nn X (X / 64) hX.1 hX.2 (by omega) (by omega)
      have e1 : (bxor .i64 X (X / 64)).tmod n = bxor .i64 X (X / 64) % n := Int.tmod_eq_emod_of_nonneg y1
      refine ⟨bxor .i64 X (X / 64) % n, Int.emod_nonneg _ (by omega), Int.emod_lt_of_pos _ (by omega), ?_⟩
      rw [callI_eq]
      simp [-St.get, -St.set, body1_eq _ _ (gpH 53) g53, c53, a53, hne2, hg, hs, rd, hBl, hl0, hw1, hw2, hw3, hw4, hw5, hw6, hw7, hw8, hw9, hw10, hw11, hw12, hw13, hw14, hw15, hw16, hn0, hn1, hk, h3, q2, q3, q4, r2, r3, r4, byV, hXe, e1, hB, setS_len]
/-- A call of the reader's from a frame above. -/
theorem frC {f : Nat} {args : List PV} {o : Stack} {id : Id} {R R' : OB} {r : PV} (hid : id.1 < o.length) (h : callI H f args (setS (o ++ [[]]) id R) = some (r, setS (o ++ [[]]) id R')) : callI H f args (setS o id R ++ [[]]) = some (r, setS o id R' ++ [[]]) := by
  rw [setS_app _ _ _ _ hid, setS_app _ _ _ _ hid] at h
  exact h
theorem hidA {o : Stack} {id : Id} (hid : id.1 < o.length) : id.1 < (o ++ [([] : Objs)]).length := by simp; omega
theorem pickF (o : Stack) (id : Id) (hid : id.1 < o.length) (B : List Nat) (p n : Int) (hr : RdrOK B p) (hn : 1 ≤ n) (hn2 : n ≤ 1000000000) :
    ∃ k, 0 ≤ k ∧ k < n ∧ callI H 53 [.ref id 1 0 0, .i n] (setS o id (rd B p) ++ [[]]) = some (.i k, setS o id (rd B (p + 1)) ++ [[]]) := by
  obtain ⟨k, h1, h2, h3⟩ := eqPick (o ++ [[]]) id (hidA hid) B p n hr hn hn2
  exact ⟨k, h1, h2, frC hid h3⟩
theorem RdrOK.next {B : List Nat} {p q : Int} (h : RdrOK B p) (h1 : p ≤ q) (h2 : q ≤ 1000000000) : RdrOK B q := ⟨h.len, h.by8, by have := h.lo; omega, h2⟩
end Go.Am
end
section
set_option maxRecDepth 10000
set_option linter.unusedSimpArgs false
set_option linter.unusedVariables false
namespace Go.Am
open Go.Proofs
inductive Pi | mk (op x y : Int) (ps : List Pi)
mutual
def enc : Pi → PV
  | .mk o x y ps => .agg [.i o, .i x, .i y, .sl false 4 (encs ps)]
def encs : List Pi → List PV
  | [] => []
  | p :: ps => enc p :: encs ps
end
theorem encs_len : ∀ ps : List Pi, (encs ps).length = ps.length
  | [] => rfl
  | _ :: ps => by simp [encs, encs_len ps]
theorem encs_app : ∀ a b : List Pi, encs (a ++ b) = encs a ++ encs b
  | [], _ => rfl
  | _ :: a, b => by simp [encs, encs_app a b]
theorem encs_at (a : List Pi) (x : Pi) (b : List Pi) : nth (encs (a ++ x :: b)) a.length = some (enc x) := by
  unfold nth
  rw [encs_app, List.getElem?_append_right (by simp [encs_len])]
  simp [encs_len, encs]
theorem enc_cells (p : Pi) : (enc p).cells = match p with | .mk o x y ps => [.i o, .i x, .i y, .sl false 4 (encs ps)] := by cases p; rfl
mutual
def szPi : Pi → Int → Int
  | .mk _ _ _ ps, l => if l - ps.length < 0 then -1 else szL ps (l - ps.length)
def szL : List Pi → Int → Int
  | [], l => l
  | p :: ps, l => if szPi p l < 0 then -1 else szL ps (szPi p l)
end
mutual
/-- Lists of no more elements than memory holds. -/
def Fit : Pi → Prop
  | .mk _ _ _ ps => ps.length ≤ 9223372036854775807 ∧ Fits ps
def Fits : List Pi → Prop
  | [] => True
  | p :: ps => Fit p ∧ Fits ps
end
theorem wr {n : Int} (h : -9223372036854775808 ≤ n ∧ n ≤ 9223372036854775807) : IntKind.i64.wrap n = n := by
  simp only [IntKind.wrap, IntKind.bits, IntKind.signed]
  simp
  omega
mutual
theorem szPi_le : ∀ (p : Pi) (l : Int), 0 ≤ l → szPi p l ≤ l
  | .mk _ _ _ ps, l, h => by
    simp only [szPi]
    split
    · omega
    · have := szL_le ps (l - ps.length) (by omega)
      omega
theorem szL_le : ∀ (ps : List Pi) (l : Int), 0 ≤ l → szL ps l ≤ l
  | [], l, _ => by simp [szL]
  | p :: ps, l, h => by
    simp only [szL]
    split
    · omega
    · have h1 := szPi_le p l h
      have h2 := szL_le ps (szPi p l) (by omega)
      omega
end
theorem szPi_ge (p : Pi) (l : Int) (h : 0 ≤ l) : -1 ≤ szPi p l ∧ True := ⟨by
  have key : ∀ ps : List Pi, ∀ l : Int, 0 ≤ l → -1 ≤ szL ps l := by
    intro ps
    induction ps with
    | nil => intro l h; simp only [szL]; omega
    | cons p ps ih =>
      intro l h
      simp only [szL]
      split
      · omega
      · exact ih _ (by omega)
  obtain ⟨o, x, y, ps⟩ := p
  simp only [szPi]
  split
  · omega
  · exact key _ _ (by omega), trivial⟩
theorem szL_ge : ∀ (ps : List Pi) (l : Int), 0 ≤ l → -1 ≤ szL ps l
  | [], l, h => by simp only [szL]; omega
  | p :: ps, l, h => by
    simp only [szL]
    split
    · omega
    · exact szL_ge ps _ (by omega)
end Go.Am
end
section
set_option maxRecDepth 10000
set_option maxHeartbeats 8000000
set_option linter.unusedSimpArgs false
set_option linter.unusedVariables false
namespace Go.Am
open Go.Proofs
/-! terms as they are drawn: what has no parts has a nil slice -/
mutual
def encV (u : Bool) : Pi → PV
  | .mk o x y ps => .agg [.i o, .i x, .i y, encW u ps]
def encW (u : Bool) : List Pi → PV
  | [] => .nils
  | p :: ps => .sl u 4 (encV u p :: encVs u ps)
def encVs (u : Bool) : List Pi → List PV
  | [] => []
  | p :: ps => encV u p :: encVs u ps
end
theorem encVs_len (u : Bool) : ∀ ps : List Pi, (encVs u ps).length = ps.length
  | [] => by simp [encVs]
  | _ :: ps => by simp [encVs, encVs_len u ps]
theorem encW_c (u : Bool) (p : Pi) (ps : List Pi) : encW u (p :: ps) = .sl u 4 (encVs u (p :: ps)) := by simp [encW, encVs]
mutual
theorem weak_encV : ∀ p : Pi, weak 4 (encV false p) = enc p
  | .mk o x y ps => by
    simp only [encV, enc, weak, weaks]
    rw [weak_encW ps]
theorem weak_encW : ∀ ps : List Pi, weak 4 (encW false ps) = .sl false 4 (encs ps)
  | [] => by simp [encW, weak, encs]
  | p :: ps => by
    simp only [encW, weak, weaks, encs]
    rw [weak_encV p, weaks_encVs ps]
theorem weaks_encVs : ∀ ps : List Pi, weaks 4 (encVs false ps) = encs ps
  | [] => by simp [encVs, weaks, encs]
  | p :: ps => by
    simp only [encVs, weaks, encs]
    rw [weak_encV p, weaks_encVs ps]
end
mutual
theorem fal_encV : ∀ p : Pi, fal (encV true p) = encV false p
  | .mk o x y ps => by
    simp only [encV, fal, fals]
    rw [fal_encW ps]
theorem fal_encW : ∀ ps : List Pi, fal (encW true ps) = encW false ps
  | [] => by simp [encW, fal]
  | p :: ps => by
    simp only [encW, fal, fals]
    rw [fal_encV p, fals_encVs ps]
theorem fals_encVs : ∀ ps : List Pi, fals (encVs true ps) = encVs false ps
  | [] => by simp [encVs, fals]
  | p :: ps => by
    simp only [encVs, fals]
    rw [fal_encV p, fals_encVs ps]
end
mutual
/-- Numbers that fit. -/
def Nums : Pi → Prop
  | .mk o x y ps => (-9223372036854775808 ≤ o ∧ o ≤ 9223372036854775807) ∧ (-9223372036854775808 ≤ x ∧ x ≤ 9223372036854775807) ∧ (-9223372036854775808 ≤ y ∧ y ≤ 9223372036854775807) ∧ ps.length ≤ 2 ∧ Numss ps
def Numss : List Pi → Prop
  | [] => True
  | p :: ps => Nums p ∧ Numss ps
end
mutual
theorem Nums.fit : ∀ p : Pi, Nums p → Fit p
  | .mk o x y ps, h => ⟨by have := h.2.2.2.1; omega, Numss.fit ps h.2.2.2.2⟩
theorem Numss.fit : ∀ ps : List Pi, Numss ps → Fits ps
  | [], _ => trivial
  | p :: ps, h => ⟨Nums.fit p h.1, Numss.fit ps h.2⟩
end
theorem eqName (o : Stack) (id : Id) (hid : id.1 < o.length) (B : List Nat) (p : Int) (hr : RdrOK B p) (hp : p + 3 ≤ 1000000000) :
    ∃ k q, p ≤ q ∧ q ≤ p + 3 ∧ -1 ≤ k ∧ k ≤ 4611686018427387904 ∧ callI H 100 [.ref id 1 0 0] (setS o id (rd B p)) = some (.i k, setS o id (rd B q)) := by
  have hne2 : ¬ id.1 = o.length := by omega
  obtain ⟨k1, a1, a2, c1⟩ := pickF o id hid B p 60 hr (by omega) (by omega)
  by_cases h1 : k1 = 0
  · obtain ⟨k2, b1, b2, c2⟩ := pickF o id hid B (p + 1) 3 (hr.next (by omega) (by omega)) (by omega) (by omega)
    have hk : k2 = 0 ∨ k2 = 1 ∨ k2 = 2 := by omega
    rcases hk with rfl | rfl | rfl
    · refine ⟨-1, p + 1 + 1, by omega, by omega, by omega, by omega, ?_⟩
      rw [callI_eq]
      simp [body1_eq _ _ (gpH 100) g100, c100, a100, hne2, setS_len, c1, h1, c2]
    · refine ⟨30, p + 1 + 1, by omega, by omega, by omega, by omega, ?_⟩
      rw [callI_eq]
      simp [body1_eq _ _ (gpH 100) g100, c100, a100, hne2, setS_len, c1, h1, c2]
    · refine ⟨4611686018427387904, p + 1 + 1, by omega, by omega, by omega, by omega, ?_⟩
      rw [callI_eq]
      simp [body1_eq _ _ (gpH 100) g100, c100, a100, hne2, setS_len, c1, h1, c2]
  · obtain ⟨k2, b1, b2, c2⟩ := pickF o id hid B (p + 1) 25 (hr.next (by omega) (by omega)) (by omega) (by omega)
    by_cases h2 : k2 = 0
    · obtain ⟨k3, d1, d2, c3⟩ := pickF o id hid B (p + 1 + 1) 30 (hr.next (by omega) (by omega)) (by omega) (by omega)
      refine ⟨k3, p + 1 + 1 + 1, by omega, by omega, by omega, by omega, ?_⟩
      rw [callI_eq]
      simp [body1_eq _ _ (gpH 100) g100, c100, a100, hne2, setS_len, c1, h1, c2, h2, c3]
    · obtain ⟨k3, d1, d2, c3⟩ := pickF o id hid B (p + 1 + 1) 4 (hr.next (by omega) (by omega)) (by omega) (by omega)
      refine ⟨k3, p + 1 + 1 + 1, by omega, by omega, by omega, by omega, ?_⟩
      rw [callI_eq]
      simp [body1_eq _ _ (gpH 100) g100, c100, a100, hne2, setS_len, c1, h1, c2, h2, c3]
theorem nameF (o : Stack) (id : Id) (hid : id.1 < o.length) (B : List Nat) (p : Int) (hr : RdrOK B p) (hp : p + 3 ≤ 1000000000) :
    ∃ k q, p ≤ q ∧ q ≤ p + 3 ∧ -1 ≤ k ∧ k ≤ 4611686018427387904 ∧ callI H 100 [.ref id 1 0 0] (setS o id (rd B p) ++ [[]]) = some (.i k, setS o id (rd B q) ++ [[]]) := by
  obtain ⟨k, q, h1, h2, h3, h4, h5⟩ := eqName (o ++ [[]]) id (hidA hid) B p hr hp
  exact ⟨k, q, h1, h2, h3, h4, frC hid h5⟩
end Go.Am
end
section
set_option maxRecDepth 10000
set_option maxHeartbeats 16000000
set_option linter.unusedSimpArgs false
set_option linter.unusedVariables false
namespace Go.Am
open Go.Proofs
/-- How far a draw of a depth reads at most. -/
def dc : Nat → Int
  | 0 => 0
  | d + 1 => 7 + 2 * dc d
theorem dc_nn : ∀ d, 0 ≤ dc d
  | 0 => by simp [dc]
  | d + 1 => by have := dc_nn d; simp only [dc]; omega
theorem encV_two (t : Pi) : ∃ o x y ps, t = .mk o x y ps ∧ ((ps = [] ∧ encV true t = .agg [.i o, .i x, .i y, .nils]) ∨ (encV true t = .agg [.i o, .i x, .i y, .sl true 4 (encVs true ps)] ∧ encW true ps = .sl true 4 (encVs true ps))) := by
  obtain ⟨o, x, y, ps⟩ := t
  refine ⟨o, x, y, ps, rfl, ?_⟩
  cases ps with
  | nil => exact .inl ⟨rfl, rfl⟩
  | cons p ps => exact .inr ⟨by simp [encV, encW, encVs], by simp [encW, encVs]⟩
theorem eqMobile : ∀ (d : Nat) (o : Stack) (id : Id), id.1 < o.length → ∀ (B : List Nat) (p : Int), RdrOK B p → d ≤ 20 → p + dc d ≤ 1000000000 →
    ∃ t q, p ≤ q ∧ q ≤ p + dc d ∧ Nums t ∧ callI H 78 [.ref id 1 0 0, .i d] (setS o id (rd B p)) = some (encV true t, setS o id (rd B q))
  | 0, o, id, hid, B, p, hr, hd, hp => by
    refine ⟨.mk 0 0 0 [], p, by omega, by simp [dc], by simp [Nums, Numss], ?_⟩
    rw [callI_eq]
    simp [body1_eq _ _ (gpH 78) g78, c78, a78, encV, encW]
  | d + 1, o, id, hid, B, p, hr, hd, hp => by
    have hne2 : ¬ id.1 = o.length := by omega
    have hdn := dc_nn d
    have hdc : dc (d + 1) = 7 + 2 * dc d := rfl
    have hd0 : ¬ (d : Int) + 1 = 0 := by omega
    have hw : IntKind.i64.wrap ((d : Int) + 1 - 1) = d := by rw [wrD (by omega)]; omega
    have hw2 : IntKind.i64.wrap (d : Int) = d := wrD (by omega)
    have ih := fun q (hq : RdrOK B q) (h : q + dc d ≤ 1000000000) => eqMobile d (o ++ [[]]) id (hidA hid) B q hq (by omega) h
    have ih : ∀ q, RdrOK B q → q + dc d ≤ 1000000000 → ∃ t q', q ≤ q' ∧ q' ≤ q + dc d ∧ Nums t ∧ callI H 78 [.ref id 1 0 0, .i d] (setS o id (rd B q) ++ [[]]) = some (encV true t, setS o id (rd B q') ++ [[]]) := fun q hq h => by
      obtain ⟨t, q', e1, e2, e3, e4⟩ := ih q hq h
      exact ⟨t, q', e1, e2, e3, frC hid e4⟩
    obtain ⟨k, a1, a2, c1⟩ := pickF o id hid B p 12 hr (by omega) (by omega)
    -- two names and a part
    have two : ∃ x y t q1 q2 q3, p + 1 ≤ q1 ∧ q1 ≤ q2 ∧ q2 ≤ q3 ∧ q3 ≤ p + dc (d + 1) ∧ (-1 ≤ x ∧ x ≤ 4611686018427387904) ∧ (-1 ≤ y ∧ y ≤ 4611686018427387904) ∧ Nums t ∧
        callI H 100 [.ref id 1 0 0] (setS o id (rd B (p + 1)) ++ [[]]) = some (.i x, setS o id (rd B q1) ++ [[]]) ∧ callI H 100 [.ref id 1 0 0] (setS o id (rd B q1) ++ [[]]) = some (.i y, setS o id (rd B q2) ++ [[]]) ∧
        callI H 78 [.ref id 1 0 0, .i d] (setS o id (rd B q2) ++ [[]]) = some (encV true t, setS o id (rd B q3) ++ [[]]) := by
      obtain ⟨x, q1, e1, e2, e3, e4, e5⟩ := nameF o id hid B (p + 1) (hr.next (by omega) (by omega)) (by omega)
      obtain ⟨y, q2, f1, f2, f3, f4, f5⟩ := nameF o id hid B q1 (hr.next (by omega) (by omega)) (by omega)
      obtain ⟨t, q3, g1, g2, g3, g4⟩ := ih q2 (hr.next (by omega) (by omega)) (by omega)
      exact ⟨x, y, t, q1, q2, q3, e1, f1, g1, by omega, ⟨e3, e4⟩, ⟨f3, f4⟩, g3, e5, f5, g4⟩
    have one : ∃ t q1, p + 1 ≤ q1 ∧ q1 ≤ p + 1 + dc d ∧ Nums t ∧ callI H 78 [.ref id 1 0 0, .i d] (setS o id (rd B (p + 1)) ++ [[]]) = some (encV true t, setS o id (rd B q1) ++ [[]]) := ih (p + 1) (hr.next (by omega) (by omega)) (by omega)
    have pair : ∃ t u q1 q2, p + 1 ≤ q1 ∧ q1 ≤ q2 ∧ q2 ≤ p + dc (d + 1) ∧ Nums t ∧ Nums u ∧ callI H 78 [.ref id 1 0 0, .i d] (setS o id (rd B (p + 1)) ++ [[]]) = some (encV true t, setS o id (rd B q1) ++ [[]]) ∧
        callI H 78 [.ref id 1 0 0, .i d] (setS o id (rd B q1) ++ [[]]) = some (encV true u, setS o id (rd B q2) ++ [[]]) := by
      obtain ⟨t, q1, e1, e2, e3, e4⟩ := one
      obtain ⟨u, q2, f1, f2, f3, f4⟩ := ih q1 (hr.next (by omega) (by omega)) (by omega)
      exact ⟨t, u, q1, q2, e1, f1, by omega, e3, f3, e4, f4⟩
    have hk : k < 3 ∨ (3 ≤ k ∧ k < 6) ∨ k = 6 ∨ k = 7 ∨ k = 8 ∨ k = 9 ∨ k = 10 ∨ k = 11 := by omega
    rcases hk with h | h | h | h | h | h | h | h
    · obtain ⟨x, y, t, q1, q2, q3, e1, e2, e3, e4, e5, e6, e7, n1, n2, n3⟩ := two
      refine ⟨.mk 1 x y [t], q3, by omega, e4, ⟨by omega, by omega, by omega, by simp, e7, trivial⟩, ?_⟩
      rw [callI_eq]
      obtain ⟨to, tx, ty, tp, rfl, ⟨rfl, ht⟩ | ⟨ht, hE⟩⟩ := encV_two t <;>
        (simp only [encV, encW] ; rw [ht] at n3
         simp [body1_eq _ _ (gpH 78) g78, c78, a78, hne2, setS_len, hd0, hw, hw2, c1, h, n1, n2, n3, encVs_len, encVs]
         try exact hE.symm)
    · obtain ⟨x, y, t, q1, q2, q3, e1, e2, e3, e4, e5, e6, e7, n1, n2, n3⟩ := two
      refine ⟨.mk 2 x y [t], q3, by omega, e4, ⟨by omega, by omega, by omega, by simp, e7, trivial⟩, ?_⟩
      have h3 : ¬ k < 3 := by omega
      have h6 : k < 6 := by omega
      rw [callI_eq]
      obtain ⟨to, tx, ty, tp, rfl, ⟨rfl, ht⟩ | ⟨ht, hE⟩⟩ := encV_two t <;>
        (simp only [encV, encW] ; rw [ht] at n3
         simp [body1_eq _ _ (gpH 78) g78, c78, a78, hne2, setS_len, hd0, hw, hw2, c1, h3, h6, n1, n2, n3, encVs_len, encVs]
         try exact hE.symm)
    · obtain ⟨t, q1, e1, e2, e3, n3⟩ := one
      refine ⟨.mk 3 0 0 [t], q1, by omega, by omega, ⟨by omega, by omega, by omega, by simp, e3, trivial⟩, ?_⟩
      subst h
      rw [callI_eq]
      obtain ⟨to, tx, ty, tp, rfl, ⟨rfl, ht⟩ | ⟨ht, hE⟩⟩ := encV_two t <;>
        (simp only [encV, encW] ; rw [ht] at n3
         simp [body1_eq _ _ (gpH 78) g78, c78, a78, hne2, setS_len, hd0, hw, hw2, c1, n3, encVs_len, encVs]
         try exact hE.symm)
    · obtain ⟨t, u, q1, q2, e1, e2, e3, e4, e5, n1, n2⟩ := pair
      refine ⟨.mk 4 0 0 [t, u], q2, by omega, by omega, ⟨by omega, by omega, by omega, by simp, e4, e5, trivial⟩, ?_⟩
      subst h
      rw [callI_eq]
      obtain ⟨to, tx, ty, tp, rfl, ⟨rfl, ht⟩ | ⟨ht, hE⟩⟩ := encV_two t <;> obtain ⟨uo, ux, uy, up, rfl, ⟨rfl, hu⟩ | ⟨hu, hF⟩⟩ := encV_two u <;>
        (simp only [encV, encW] ; rw [ht] at n1; rw [hu] at n2
         simp [body1_eq _ _ (gpH 78) g78, c78, a78, hne2, setS_len, hd0, hw, hw2, c1, n1, n2, encVs_len, encVs]
         try simp only [encV, encW, hE, hF, and_self]
         try simp only [encV, encW, hE, and_self]
         try simp only [encV, encW, hF, and_self]
         try simp only [encV, encW])
    · obtain ⟨t, u, q1, q2, e1, e2, e3, e4, e5, n1, n2⟩ := pair
      refine ⟨.mk 5 0 0 [t, u], q2, by omega, by omega, ⟨by omega, by omega, by omega, by simp, e4, e5, trivial⟩, ?_⟩
      subst h
      rw [callI_eq]
      obtain ⟨to, tx, ty, tp, rfl, ⟨rfl, ht⟩ | ⟨ht, hE⟩⟩ := encV_two t <;> obtain ⟨uo, ux, uy, up, rfl, ⟨rfl, hu⟩ | ⟨hu, hF⟩⟩ := encV_two u <;>
        (simp only [encV, encW] ; rw [ht] at n1; rw [hu] at n2
         simp [body1_eq _ _ (gpH 78) g78, c78, a78, hne2, setS_len, hd0, hw, hw2, c1, n1, n2, encVs_len, encVs]
         try simp only [encV, encW, hE, hF, and_self]
         try simp only [encV, encW, hE, and_self]
         try simp only [encV, encW, hF, and_self]
         try simp only [encV, encW])
    · obtain ⟨t, u, q1, q2, e1, e2, e3, e4, e5, n1, n2⟩ := pair
      refine ⟨.mk 5 0 0 [t, u], q2, by omega, by omega, ⟨by omega, by omega, by omega, by simp, e4, e5, trivial⟩, ?_⟩
      subst h
      rw [callI_eq]
      obtain ⟨to, tx, ty, tp, rfl, ⟨rfl, ht⟩ | ⟨ht, hE⟩⟩ := encV_two t <;> obtain ⟨uo, ux, uy, up, rfl, ⟨rfl, hu⟩ | ⟨hu, hF⟩⟩ := encV_two u <;>
        (simp only [encV, encW] ; rw [ht] at n1; rw [hu] at n2
         simp [body1_eq _ _ (gpH 78) g78, c78, a78, hne2, setS_len, hd0, hw, hw2, c1, n1, n2, encVs_len, encVs]
         try simp only [encV, encW, hE, hF, and_self]
         try simp only [encV, encW, hE, and_self]
         try simp only [encV, encW, hF, and_self]
         try simp only [encV, encW])
    · subst h
      obtain ⟨x, q1, e1, e2, e3, e4, n1⟩ := nameF o id hid B (p + 1) (hr.next (by omega) (by omega)) (by omega)
      obtain ⟨y, b1, b2, n2⟩ := pickF o id hid B q1 3 (hr.next (by omega) (by omega)) (by omega) (by omega)
      obtain ⟨t, q3, g1, g2, g3, n3⟩ := ih (q1 + 1) (hr.next (by omega) (by omega)) (by omega)
      refine ⟨.mk 6 x y [t], q3, by omega, by omega, ⟨by omega, by omega, by omega, by simp, g3, trivial⟩, ?_⟩
      rw [callI_eq]
      obtain ⟨to, tx, ty, tp, rfl, ⟨rfl, ht⟩ | ⟨ht, hE⟩⟩ := encV_two t <;>
        (simp only [encV, encW] ; rw [ht] at n3
         simp [body1_eq _ _ (gpH 78) g78, c78, a78, hne2, setS_len, hd0, hw, hw2, c1, n1, n2, n3, encVs_len, encVs]
         try exact hE.symm)
    · obtain ⟨x, y, t, q1, q2, q3, e1, e2, e3, e4, e5, e6, e7, n1, n2, n3⟩ := two
      refine ⟨.mk 7 x y [t], q3, by omega, e4, ⟨by omega, by omega, by omega, by simp, e7, trivial⟩, ?_⟩
      subst h
      rw [callI_eq]
      obtain ⟨to, tx, ty, tp, rfl, ⟨rfl, ht⟩ | ⟨ht, hE⟩⟩ := encV_two t <;>
        (simp only [encV, encW] ; rw [ht] at n3
         simp [body1_eq _ _ (gpH 78) g78, c78, a78, hne2, setS_len, hd0, hw, hw2, c1, n1, n2, n3, encVs_len, encVs]
         try exact hE.symm)
theorem mobileF (d : Nat) (o : Stack) (id : Id) (hid : id.1 < o.length) (B : List Nat) (p : Int) (hr : RdrOK B p) (hd : d ≤ 20) (hp : p + dc d ≤ 1000000000) :
    ∃ t q, p ≤ q ∧ q ≤ p + dc d ∧ Nums t ∧ callI H 78 [.ref id 1 0 0, .i d] (setS o id (rd B p) ++ [[]]) = some (encV true t, setS o id (rd B q) ++ [[]]) := by
  obtain ⟨t, q, e1, e2, e3, e4⟩ := eqMobile d (o ++ [[]]) id (hidA hid) B p hr hd hp
  exact ⟨t, q, e1, e2, e3, frC hid e4⟩
end Go.Am
end
section
set_option maxRecDepth 10000
set_option maxHeartbeats 16000000
set_option linter.unusedSimpArgs false
set_option linter.unusedVariables false
namespace Go.Am
open Go.Proofs
theorem encW_one (t : Pi) : encW true [t] = .sl true 4 [encV true t] := by simp [encW, encVs]
theorem encW_two (t u : Pi) : encW true [t, u] = .sl true 4 [encV true t, encV true u] := by simp [encW, encVs]
theorem eqMeet (o : Stack) (id : Id) (hid : id.1 < o.length) (B : List Nat) (p : Int) (hr : RdrOK B p) (hp : p + 1000 ≤ 1000000000) :
    ∃ t q, p ≤ q ∧ q ≤ p + 1000 ∧ Nums t ∧ callI H 79 [.ref id 1 0 0] (setS o id (rd B p)) = some (encV true t, setS o id (rd B q)) := by
  have hne2 : ¬ id.1 = o.length := by omega
  obtain ⟨x, x1, x2, cx⟩ := pickF o id hid B p 3 hr (by omega) (by omega)
  obtain ⟨y, y1, y2, cy⟩ := pickF o id hid B (p + 1) 5 (hr.next (by omega) (by omega)) (by omega) (by omega)
  obtain ⟨z, z1, z2, cz⟩ := pickF o id hid B (p + 1 + 1) 5 (hr.next (by omega) (by omega)) (by omega) (by omega)
  obtain ⟨d1, d11, d12, cd1⟩ := pickF o id hid B (p + 1 + 1 + 1) 2 (hr.next (by omega) (by omega)) (by omega) (by omega)
  have dcv : dc 1 = 7 ∧ dc 2 = 21 := by decide
  have mob : ∀ (d : Int) (q : Int), 0 ≤ d → d < 2 → p ≤ q → q ≤ p + 500 → ∃ t q', q ≤ q' ∧ q' ≤ q + 21 ∧ Nums t ∧ callI H 78 [.ref id 1 0 0, .i (1 + d)] (setS o id (rd B q) ++ [[]]) = some (encV true t, setS o id (rd B q') ++ [[]]) := by
    intro d q h1 h2 h3 h4
    have hd : d = 0 ∨ d = 1 := by omega
    rcases hd with rfl | rfl
    · obtain ⟨t, q', e1, e2, e3, e4⟩ := mobileF 1 o id hid B q (hr.next (by omega) (by omega)) (by omega) (by omega)
      exact ⟨t, q', e1, by omega, e3, e4⟩
    · obtain ⟨t, q', e1, e2, e3, e4⟩ := mobileF 2 o id hid B q (hr.next (by omega) (by omega)) (by omega) (by omega)
      exact ⟨t, q', e1, by omega, e3, e4⟩
  have hw : ∀ d : Int, 0 ≤ d → d < 2 → IntKind.i64.wrap (1 + d) = 1 + d := fun d h1 h2 => wrD (by omega)
  have hw1 := hw d1 d11 d12
  obtain ⟨s, q1, s1, s2, ns, cs⟩ := mob d1 (p + 1 + 1 + 1 + 1) d11 d12 (by omega) (by omega)
  obtain ⟨d2, d21, d22, cd2⟩ := pickF o id hid B q1 2 (hr.next (by omega) (by omega)) (by omega) (by omega)
  have hw2 := hw d2 d21 d22
  obtain ⟨g, q2, g1, g2, ng, cg⟩ := mob d2 (q1 + 1) d21 d22 (by omega) (by omega)
  obtain ⟨k, k1, k2, ck⟩ := pickF o id hid B q2 4 (hr.next (by omega) (by omega)) (by omega) (by omega)
  obtain ⟨w, w1, w2, cw⟩ := pickF o id hid B (q2 + 1) 3 (hr.next (by omega) (by omega)) (by omega) (by omega)
  obtain ⟨v, v1, v2, cv⟩ := pickF o id hid B (q2 + 1) 2 (hr.next (by omega) (by omega)) (by omega) (by omega)
  obtain ⟨v', v1', v2', cv'⟩ := pickF o id hid B (q2 + 1 + 1) 2 (hr.next (by omega) (by omega)) (by omega) (by omega)
  have nS : Nums (.mk 1 x y [s]) := ⟨by omega, by omega, by omega, by simp, ns, trivial⟩
  have nG : Nums (.mk 2 x z [g]) := ⟨by omega, by omega, by omega, by simp, ng, trivial⟩
  have nN : Nums (.mk 6 y w [.mk 1 x y [s]]) := ⟨by omega, by omega, by omega, by simp, nS, trivial⟩
  have nT : Nums (.mk 4 0 0 [.mk 2 x z [g], .mk 3 0 0 [.mk 0 0 0 []]]) := by simp [Nums, Numss, ng]; omega
  have pr : ∀ {a b : Pi}, Nums a → Nums b → Nums (.mk 5 0 0 [a, b]) := fun ha hb => ⟨by omega, by omega, by omega, by simp, ha, hb, trivial⟩
  have hk : k = 0 ∨ k = 1 ∨ (¬ k = 0 ∧ ¬ k = 1) := by omega
  rcases hk with rfl | rfl | ⟨hk0, hk1⟩
  · by_cases hv : v' = 0
    · refine ⟨.mk 5 0 0 [.mk 6 y w [.mk 1 x y [s]], .mk 2 x z [g]], q2 + 1 + 1 + 1, by omega, by omega, pr nN nG, ?_⟩
      rw [callI_eq]
      obtain ⟨so, sx, sy, sp, rfl, ⟨rfl, hs⟩ | ⟨hs, hE⟩⟩ := encV_two s <;> obtain ⟨go, gx, gy, gq, rfl, ⟨rfl, hg⟩ | ⟨hg, hF⟩⟩ := encV_two g <;>
        (rw [hs] at cs; rw [hg] at cg
         simp [body1_eq _ _ (gpH 79) g79, c79, a79, hne2, setS_len, cx, cy, cz, cd1, cd2, hw1, hw2, cs, cg, ck, cw, cv', hv, encVs_len, encV, encW_one, encW_two, encVs, hs, hg]
         try simp only [encV, encW, hE, hF, and_self]
         try simp only [encV, encW, hE, and_self]
         try simp only [encV, encW, hF, and_self]
         try simp only [encV, encW])
    · refine ⟨.mk 5 0 0 [.mk 2 x z [g], .mk 6 y w [.mk 1 x y [s]]], q2 + 1 + 1 + 1, by omega, by omega, pr nG nN, ?_⟩
      rw [callI_eq]
      obtain ⟨so, sx, sy, sp, rfl, ⟨rfl, hs⟩ | ⟨hs, hE⟩⟩ := encV_two s <;> obtain ⟨go, gx, gy, gq, rfl, ⟨rfl, hg⟩ | ⟨hg, hF⟩⟩ := encV_two g <;>
        (rw [hs] at cs; rw [hg] at cg
         simp [body1_eq _ _ (gpH 79) g79, c79, a79, hne2, setS_len, cx, cy, cz, cd1, cd2, hw1, hw2, cs, cg, ck, cw, cv', hv, encVs_len, encV, encW_one, encW_two, encVs, hs, hg]
         try simp only [encV, encW, hE, hF, and_self]
         try simp only [encV, encW, hE, and_self]
         try simp only [encV, encW, hF, and_self]
         try simp only [encV, encW])
  · by_cases hv : v = 0
    · refine ⟨.mk 5 0 0 [.mk 1 x y [s], .mk 4 0 0 [.mk 2 x z [g], .mk 3 0 0 [.mk 0 0 0 []]]], q2 + 1 + 1, by omega, by omega, pr nS nT, ?_⟩
      rw [callI_eq]
      obtain ⟨so, sx, sy, sp, rfl, ⟨rfl, hs⟩ | ⟨hs, hE⟩⟩ := encV_two s <;> obtain ⟨go, gx, gy, gq, rfl, ⟨rfl, hg⟩ | ⟨hg, hF⟩⟩ := encV_two g <;>
        (rw [hs] at cs; rw [hg] at cg
         simp [body1_eq _ _ (gpH 79) g79, c79, a79, hne2, setS_len, cx, cy, cz, cd1, cd2, hw1, hw2, cs, cg, ck, cv, hv, encVs_len, encV, encW_one, encW_two, encVs, hs, hg]
         try simp only [encV, encW, hE, hF, and_self]
         try simp only [encV, encW, hE, and_self]
         try simp only [encV, encW, hF, and_self]
         try simp only [encV, encW])
    · refine ⟨.mk 5 0 0 [.mk 4 0 0 [.mk 2 x z [g], .mk 3 0 0 [.mk 0 0 0 []]], .mk 1 x y [s]], q2 + 1 + 1, by omega, by omega, pr nT nS, ?_⟩
      rw [callI_eq]
      obtain ⟨so, sx, sy, sp, rfl, ⟨rfl, hs⟩ | ⟨hs, hE⟩⟩ := encV_two s <;> obtain ⟨go, gx, gy, gq, rfl, ⟨rfl, hg⟩ | ⟨hg, hF⟩⟩ := encV_two g <;>
        (rw [hs] at cs; rw [hg] at cg
         simp [body1_eq _ _ (gpH 79) g79, c79, a79, hne2, setS_len, cx, cy, cz, cd1, cd2, hw1, hw2, cs, cg, ck, cv, hv, encVs_len, encV, encW_one, encW_two, encVs, hs, hg]
         try simp only [encV, encW, hE, hF, and_self]
         try simp only [encV, encW, hE, and_self]
         try simp only [encV, encW, hF, and_self]
         try simp only [encV, encW])
  · by_cases hv : v = 0
    · refine ⟨.mk 5 0 0 [.mk 1 x y [s], .mk 2 x z [g]], q2 + 1 + 1, by omega, by omega, pr nS nG, ?_⟩
      rw [callI_eq]
      obtain ⟨so, sx, sy, sp, rfl, ⟨rfl, hs⟩ | ⟨hs, hE⟩⟩ := encV_two s <;> obtain ⟨go, gx, gy, gq, rfl, ⟨rfl, hg⟩ | ⟨hg, hF⟩⟩ := encV_two g <;>
        (rw [hs] at cs; rw [hg] at cg
         simp [body1_eq _ _ (gpH 79) g79, c79, a79, hne2, setS_len, cx, cy, cz, cd1, cd2, hw1, hw2, cs, cg, ck, hk0, hk1, cv, hv, encVs_len, encV, encW_one, encW_two, encVs, hs, hg]
         try simp only [encV, encW, hE, hF, and_self]
         try simp only [encV, encW, hE, and_self]
         try simp only [encV, encW, hF, and_self]
         try simp only [encV, encW])
    · refine ⟨.mk 5 0 0 [.mk 2 x z [g], .mk 1 x y [s]], q2 + 1 + 1, by omega, by omega, pr nG nS, ?_⟩
      rw [callI_eq]
      obtain ⟨so, sx, sy, sp, rfl, ⟨rfl, hs⟩ | ⟨hs, hE⟩⟩ := encV_two s <;> obtain ⟨go, gx, gy, gq, rfl, ⟨rfl, hg⟩ | ⟨hg, hF⟩⟩ := encV_two g <;>
        (rw [hs] at cs; rw [hg] at cg
         simp [body1_eq _ _ (gpH 79) g79, c79, a79, hne2, setS_len, cx, cy, cz, cd1, cd2, hw1, hw2, cs, cg, ck, hk0, hk1, cv, hv, encVs_len, encV, encW_one, encW_two, encVs, hs, hg]
         try simp only [encV, encW, hE, hF, and_self]
         try simp only [encV, encW, hE, and_self]
         try simp only [encV, encW, hF, and_self]
         try simp only [encV, encW])
end Go.Am
end
section
set_option maxRecDepth 10000
set_option maxHeartbeats 16000000
set_option linter.unusedSimpArgs false
set_option linter.unusedVariables false
namespace Go.Am
open Go.Proofs
theorem meetF (o : Stack) (id : Id) (hid : id.1 < o.length) (B : List Nat) (p : Int) (hr : RdrOK B p) (hp : p + 1000 ≤ 1000000000) :
    ∃ t q, p ≤ q ∧ q ≤ p + 1000 ∧ Nums t ∧ callI H 79 [.ref id 1 0 0] (setS o id (rd B p) ++ [[]]) = some (encV true t, setS o id (rd B q) ++ [[]]) := by
  obtain ⟨t, q, e1, e2, e3, e4⟩ := eqMeet (o ++ [[]]) id (hidA hid) B p hr hp
  exact ⟨t, q, e1, e2, e3, frC hid e4⟩
theorem eqDrawPi (o : Stack) (id : Id) (hid : id.1 < o.length) (B : List Nat) (p : Int) (hr : RdrOK B p) (hp : p + 10000 ≤ 1000000000) :
    ∃ t q, p ≤ q ∧ q ≤ p + 10000 ∧ Nums t ∧ callI H 37 [.ref id 1 0 0] (setS o id (rd B p)) = some (encV true t, setS o id (rd B q)) := by
  have hne2 : ¬ id.1 = o.length := by omega
  obtain ⟨d, d1, d2, cd⟩ := pickF o id hid B p 4 hr (by omega) (by omega)
  have hw : IntKind.i64.wrap (1 + d) = 1 + d := wrD (by omega)
  have dcv : dc 1 = 7 ∧ dc 2 = 21 ∧ dc 3 = 49 ∧ dc 4 = 105 := by decide
  have mob : ∃ t q', p + 1 ≤ q' ∧ q' ≤ p + 1 + 105 ∧ Nums t ∧ callI H 78 [.ref id 1 0 0, .i (1 + d)] (setS o id (rd B (p + 1)) ++ [[]]) = some (encV true t, setS o id (rd B q') ++ [[]]) := by
    have hd : d = 0 ∨ d = 1 ∨ d = 2 ∨ d = 3 := by omega
    rcases hd with rfl | rfl | rfl | rfl
    · obtain ⟨t, q', e1, e2, e3, e4⟩ := mobileF 1 o id hid B (p + 1) (hr.next (by omega) (by omega)) (by omega) (by omega)
      exact ⟨t, q', e1, by omega, e3, e4⟩
    · obtain ⟨t, q', e1, e2, e3, e4⟩ := mobileF 2 o id hid B (p + 1) (hr.next (by omega) (by omega)) (by omega) (by omega)
      exact ⟨t, q', e1, by omega, e3, e4⟩
    · obtain ⟨t, q', e1, e2, e3, e4⟩ := mobileF 3 o id hid B (p + 1) (hr.next (by omega) (by omega)) (by omega) (by omega)
      exact ⟨t, q', e1, by omega, e3, e4⟩
    · obtain ⟨t, q', e1, e2, e3, e4⟩ := mobileF 4 o id hid B (p + 1) (hr.next (by omega) (by omega)) (by omega) (by omega)
      exact ⟨t, q', e1, by omega, e3, e4⟩
  obtain ⟨t, q1, t1, t2, nt, ct⟩ := mob
  obtain ⟨k, k1, k2, ck⟩ := pickF o id hid B q1 2 (hr.next (by omega) (by omega)) (by omega) (by omega)
  by_cases hk : k = 0
  · obtain ⟨u, q2, u1, u2, nu, cu⟩ := meetF o id hid B (q1 + 1) (hr.next (by omega) (by omega)) (by omega)
    obtain ⟨w, w1, w2, cw⟩ := pickF o id hid B q2 30 (hr.next (by omega) (by omega)) (by omega) (by omega)
    obtain ⟨x, x1, x2, cx⟩ := pickF o id hid B (q2 + 1) 10 (hr.next (by omega) (by omega)) (by omega) (by omega)
    obtain ⟨uo, ux, uy, up, rfl, hu⟩ := encV_two u
    obtain ⟨to, tx, ty, tp, rfl, ht⟩ := encV_two t
    by_cases hw0 : w = 0
    · refine ⟨.mk x ux uy up, q2 + 1 + 1, by omega, by omega, ⟨by omega, nu.2⟩, ?_⟩
      rw [callI_eq]
      rcases hu with ⟨rfl, hu⟩ | ⟨hu, hF⟩ <;> rcases ht with ⟨rfl, ht⟩ | ⟨ht, hE⟩ <;>
        (rw [hu] at cu; rw [ht] at ct
         simp [body1_eq _ _ (gpH 37) g37, c37, a37, hne2, setS_len, cd, hw, ct, ck, hk, cu, cw, hw0, cx, encVs_len, encV]
         try simp only [encW, hF, encVs]
         try simp only [encW])
    · refine ⟨.mk uo ux uy up, q2 + 1, by omega, by omega, nu, ?_⟩
      rw [callI_eq]
      rcases hu with ⟨rfl, hu⟩ | ⟨hu, hF⟩ <;> rcases ht with ⟨rfl, ht⟩ | ⟨ht, hE⟩ <;>
        (rw [hu] at cu; rw [ht] at ct
         simp [body1_eq _ _ (gpH 37) g37, c37, a37, hne2, setS_len, cd, hw, ct, ck, hk, cu, cw, hw0, cx, encVs_len, encV]
         try simp only [encW, hF, encVs]
         try simp only [encW])
  · obtain ⟨w, w1, w2, cw⟩ := pickF o id hid B (q1 + 1) 30 (hr.next (by omega) (by omega)) (by omega) (by omega)
    obtain ⟨x, x1, x2, cx⟩ := pickF o id hid B (q1 + 1 + 1) 10 (hr.next (by omega) (by omega)) (by omega) (by omega)
    obtain ⟨to, tx, ty, tp, rfl, ht⟩ := encV_two t
    by_cases hw0 : w = 0
    · refine ⟨.mk x tx ty tp, q1 + 1 + 1 + 1, by omega, by omega, ⟨by omega, nt.2⟩, ?_⟩
      rw [callI_eq]
      rcases ht with ⟨rfl, ht⟩ | ⟨ht, hE⟩ <;>
        (rw [ht] at ct
         simp [body1_eq _ _ (gpH 37) g37, c37, a37, hne2, setS_len, cd, hw, ct, ck, hk, cw, hw0, cx, encVs_len, encV]
         try simp only [encW, hE, encVs]
         try simp only [encW])
    · refine ⟨.mk to tx ty tp, q1 + 1 + 1, by omega, by omega, nt, ?_⟩
      rw [callI_eq]
      rcases ht with ⟨rfl, ht⟩ | ⟨ht, hE⟩ <;>
        (rw [ht] at ct
         simp [body1_eq _ _ (gpH 37) g37, c37, a37, hne2, setS_len, cd, hw, ct, ck, hk, cw, hw0, cx, encVs_len, encV]
         try simp only [encW, hE, encVs]
         try simp only [encW])
end Go.Am
end
section
set_option maxRecDepth 10000
set_option linter.unusedSimpArgs false
set_option linter.unusedVariables false
namespace Go.Am
open Go.Proofs
def ints : List Int → List PV
  | [] => []
  | x :: xs => .i x :: ints xs
theorem ints_len : ∀ xs : List Int, (ints xs).length = xs.length
  | [] => rfl
  | _ :: xs => by simp [ints, ints_len xs]
theorem ints_app : ∀ a b : List Int, ints (a ++ b) = ints a ++ ints b
  | [], _ => rfl
  | _ :: a, b => by simp [ints, ints_app a b]
theorem ints_at (a : List Int) (x : Int) (b : List Int) : nth (ints (a ++ x :: b)) a.length = some (.i x) := by
  unfold nth
  rw [ints_app, List.getElem?_append_right (by simp [ints_len])]
  simp [ints_len, ints]
theorem fals_ints : ∀ xs : List Int, fals (ints xs) = ints xs
  | [] => rfl
  | x :: xs => by simp [ints, fals_ints xs]
@[simp] theorem noShares_ints : ∀ xs : List Int, noShares (ints xs) = true
  | [] => rfl
  | x :: xs => by simp [ints, noShares_ints xs]
@[simp] theorem plains_ints : ∀ xs : List Int, plains (ints xs) = true
  | [] => rfl
  | x :: xs => by simp [ints, plains_ints xs]
theorem irow_at (a : List Int) (m : Nat) (z : PV) : nth (ints a ++ z :: List.replicate m z) a.length = some z := by
  unfold nth
  rw [List.getElem?_append_right (by simp [ints_len])]
  simp [ints_len]
theorem irow_set (a : List Int) (m : Nat) (z y : PV) : (ints a ++ z :: List.replicate m z).set a.length y = ints a ++ y :: List.replicate m z := by
  rw [List.set_append_right _ _ (by simp [ints_len])]
  simp [ints_len]
theorem ints_set : ∀ (l : List Int) (i : Nat) (v : Int), (ints l).set i (.i v) = ints (l.set i v)
  | [], _, _ => rfl
  | x :: l, 0, v => rfl
  | x :: l, i + 1, v => by simp [ints, ints_set l i v]
/-! laws.toIntS -/
/-! laws.eqIntS: of the same list -/
end Go.Am
end
section
set_option maxRecDepth 10000
set_option linter.unusedSimpArgs false
set_option linter.unusedVariables false
namespace Go.Am
open Go.Proofs
/-! rows of numbers, as the laws look at them: nil or a row -/
def fvF (L : List Int) : PV := if L = [] then .nils else .sl false 1 (ints L)
def AscL (l : List Int) : Prop := l.Pairwise (· < ·)
def hasI : List Int → Int → Bool
  | [], _ => false
  | x :: l, n => decide (x = n) || hasI l n
theorem hasI_mem : ∀ (l : List Int) (n : Int), hasI l n = decide (n ∈ l)
  | [], n => by simp [hasI]
  | x :: l, n => by
    simp only [hasI, hasI_mem l n, List.mem_cons]
    by_cases h : x = n
    · simp [h]
    · have : ¬ n = x := fun e => h e.symm
      simp [h, this]
theorem ints_nth (L : List Int) (k : Nat) (h : k < L.length) : nth (ints L) k = some (.i L[k]) := by
  induction L generalizing k with
  | nil => simp at h
  | cons x L ih =>
    cases k with
    | zero => rfl
    | succ k => simp only [ints, nth_s, List.getElem_cons_succ]; exact ih k (by simpa using h)
theorem loopMnInts (L : List Int) (hl : L.length ≤ 4611686018427387904) : ∀ (n k : Nat), k + n = L.length →
    loopI H [0, 1, 5] [] c12l0 ⟨[(0, .sl false 1 (ints L)), (1, .sl false 1 (ints L)), (5, .i k)], [], []⟩ = some (.exit 0, ⟨[(0, .sl false 1 (ints L)), (1, .sl false 1 (ints L)), (5, .i L.length), (14, .b false)], [], []⟩)
  | 0, k, h => by
    have : k = L.length := by omega
    subst this
    rw [loopI_eq]
    simp [r12l0, b12l0, ints_len]
  | n + 1, k, h => by
    have hn := loopMnInts L hl n (k + 1) (by omega)
    have hat := ints_nth L k (by omega)
    have hlt : (k : Int) < L.length := by omega
    have hw : IntKind.i64.wrap ((k : Int) + 1) = (k : Int) + 1 := wr (by omega)
    simp only [Int.natCast_add, show ((1 : Nat) : Int) = 1 from rfl] at hn
    rw [loopI_eq]
    simp [r12l0, b12l0, ints_len, hlt, hat, hw, hn]
theorem eqMnInts (L : List Int) (hl : L.length ≤ 4611686018427387904) : callI H 12 [fvF L, fvF L] [] = some (.b true, []) := by
  rw [callI_eq]
  by_cases h : L = []
  · subst h
    have hlp : loopI H [0, 1, 5] [] c12l0 ⟨[(0, .nils), (1, .nils), (5, .i 0)], [], []⟩ = some (.exit 0, ⟨[(0, .nils), (1, .nils), (5, .i 0), (14, .b false)], [], []⟩) := by
      rw [loopI_eq]
      simp [r12l0, b12l0]
    simp [body1_eq _ _ (gpH 12) g12, c12, a12, fvF, hlp]
  · have hlp := loopMnInts L hl L.length 0 (by omega)
    simp only [show ((0 : Nat) : Int) = 0 from rfl] at hlp
    simp [body1_eq _ _ (gpH 12) g12, c12, a12, fvF, h, ints_len, hlp]
theorem loopMnRises (L : List Int) (hs : AscL L) (hl : L.length ≤ 4611686018427387904) : ∀ (n k : Nat), 1 ≤ k → k + n = L.length →
    loopI H [0, 3] [] c13l0 ⟨[(0, .sl false 1 (ints L)), (3, .i k)], [], []⟩ = some (.exit 0, ⟨[(0, .sl false 1 (ints L)), (3, .i L.length), (7, .b false)], [], []⟩)
  | 0, k, h1, h => by
    have : k = L.length := by omega
    subst this
    rw [loopI_eq]
    simp [r13l0, b13l0, ints_len]
  | n + 1, k, h1, h => by
    have hn := loopMnRises L hs hl n (k + 1) (by omega) (by omega)
    have hat := ints_nth L k (by omega)
    have hat2 := ints_nth L (k - 1) (by omega)
    have hlt : (k : Int) < L.length := by omega
    have hlt2 : (k : Int) - 1 < L.length := by omega
    have hge : (0 : Int) ≤ (k : Int) - 1 := by omega
    have hge1 : (1 : Int) ≤ (k : Int) := by omega
    have htn : ((k : Int) - 1).toNat = k - 1 := by omega
    have hw : IntKind.i64.wrap ((k : Int) + 1) = (k : Int) + 1 := wr (by omega)
    have hw2 : IntKind.i64.wrap ((k : Int) - 1) = (k : Int) - 1 := wr (by omega)
    have hrise : ¬ L[k] ≤ L[k - 1] := by
      have := List.pairwise_iff_getElem.1 hs (k - 1) k (by omega) (by omega) (by omega)
      omega
    simp only [Int.natCast_add, show ((1 : Nat) : Int) = 1 from rfl] at hn
    generalize L[k] = u at *
    generalize L[k - 1] = v at *
    rw [loopI_eq]
    simp [r13l0, b13l0, ints_len, hlt, hlt2, hge, hge1, htn, hat, hat2, hw, hw2, hrise, hn]
theorem eqMnRises (L : List Int) (hs : AscL L) (hl : L.length ≤ 4611686018427387904) : callI H 13 [fvF L] [] = some (.b true, []) := by
  rw [callI_eq]
  cases L with
  | nil =>
    have hlp : loopI H [0, 3] [] c13l0 ⟨[(0, .nils), (3, .i 1)], [], []⟩ = some (.exit 0, ⟨[(0, .nils), (3, .i 1), (7, .b false)], [], []⟩) := by
      rw [loopI_eq]
      simp [r13l0, b13l0]
    simp [body1_eq _ _ (gpH 13) g13, c13, a13, fvF, hlp]
  | cons x L =>
    have hlp := loopMnRises (x :: L) hs hl L.length 1 (by omega) (by simp; omega)
    simp only [show ((1 : Nat) : Int) = 1 from rfl] at hlp
    simp [body1_eq _ _ (gpH 13) g13, c13, a13, fvF, hlp]
theorem loopMnHas (y : Int) : ∀ (rest done : List Int), (done ++ rest).length ≤ 4611686018427387904 →
    loopI H [0, 1, 5] [] c15l0 ⟨[(0, .sl false 1 (ints (done ++ rest))), (1, .i y), (5, .i done.length)], [], []⟩ =
      if hasI rest y = true then some (.ret, ⟨[(4, .b true)], [], []⟩) else some (.exit 0, ⟨[(0, .sl false 1 (ints (done ++ rest))), (1, .i y), (5, .i (done ++ rest).length), (9, .b false)], [], []⟩)
  | [], done, h => by
    rw [loopI_eq]
    simp [r15l0, b15l0, ints_len, hasI]
  | x :: rest, done, h => by
    have hat := ints_at done x rest
    have hlt : (done.length : Int) < (done.length : Int) + ((rest.length : Int) + 1) := by omega
    have hw : IntKind.i64.wrap ((done.length : Int) + 1) = (done.length : Int) + 1 := wr (by simp at h; omega)
    have hn := loopMnHas y rest (done ++ [x]) (by simpa using h)
    rw [loopI_eq]
    by_cases hx : x = y
    · subst hx
      simp [r15l0, b15l0, ints_len, hlt, hat, hw, hasI]
    · simp [r15l0, b15l0, ints_len, hlt, hat, hw, hx, hasI]
      simpa [Int.add_assoc] using hn
theorem eqMnHas (L : List Int) (y : Int) (hl : L.length ≤ 4611686018427387904) : callI H 15 [fvF L, .i y] [] = some (.b (hasI L y), []) := by
  rw [callI_eq]
  by_cases h : L = []
  · subst h
    have hlp : loopI H [0, 1, 5] [] c15l0 ⟨[(0, .nils), (1, .i y), (5, .i 0)], [], []⟩ = some (.exit 0, ⟨[(0, .nils), (1, .i y), (5, .i 0), (9, .b false)], [], []⟩) := by
      rw [loopI_eq]
      simp [r15l0, b15l0]
    simp [body1_eq _ _ (gpH 15) g15, c15, a15, fvF, hlp, hasI]
  · have hlp := loopMnHas y L [] (by simpa using hl)
    simp only [List.nil_append, List.length_nil, show ((0 : Nat) : Int) = 0 from rfl] at hlp
    by_cases hh : hasI L y = true
    · simp only [hh, if_true] at hlp
      simp [body1_eq _ _ (gpH 15) g15, c15, a15, fvF, h, hlp, hh]
    · simp only [hh, if_false] at hlp
      simp [body1_eq _ _ (gpH 15) g15, c15, a15, fvF, h, hlp, hh]
end Go.Am
end
section
set_option maxRecDepth 10000
set_option linter.unusedSimpArgs false
set_option linter.unusedVariables false
namespace Go.Am
open Go.Proofs
mutual
def encU : Pi → PV
  | .mk o x y ps => .agg [.i o, .i x, .i y, .sl true 4 (encUs ps)]
def encUs : List Pi → List PV
  | [] => []
  | p :: ps => encU p :: encUs ps
end
theorem encUs_len : ∀ ps : List Pi, (encUs ps).length = ps.length
  | [] => rfl
  | _ :: ps => by simp [encUs, encUs_len ps]
theorem encUs_app : ∀ a b : List Pi, encUs (a ++ b) = encUs a ++ encUs b
  | [], _ => rfl
  | _ :: a, b => by simp [encUs, encUs_app a b]
mutual
theorem fal_encU : ∀ p, fal (encU p) = enc p
  | .mk o x y ps => by simp [encU, enc, fals_encU ps]
theorem fals_encU : ∀ ps, fals (encUs ps) = encs ps
  | [] => rfl
  | p :: ps => by simp [encUs, encs, fal_encU p, fals_encU ps]
end
abbrev Z4 : PV := .agg [.i 0, .i 0, .i 0, .nils]
theorem row_at (a : List Pi) (m : Nat) : nth (encUs a ++ Z4 :: List.replicate m Z4) a.length = some Z4 := by
  unfold nth
  rw [List.getElem?_append_right (by simp [encUs_len])]
  simp [encUs_len]
theorem row_set (a : List Pi) (m : Nat) (y : PV) : (encUs a ++ Z4 :: List.replicate m Z4).set a.length y = encUs a ++ y :: List.replicate m Z4 := by
  rw [List.set_append_right _ _ (by simp [encUs_len])]
  simp [encUs_len]
mutual
/-- Lists that can be made. -/
def Small : Pi → Prop
  | .mk _ _ _ ps => ps.length ≤ 4294967296 ∧ Smalls ps
def Smalls : List Pi → Prop
  | [] => True
  | p :: ps => Small p ∧ Smalls ps
end
mutual
theorem szPi_small : ∀ (p : Pi) (l : Int), 0 ≤ l → l ≤ 1048576 → 0 ≤ szPi p l → Small p
  | .mk _ _ _ ps, l, h0, h1, h => by
    simp only [szPi] at h
    split at h
    · omega
    · exact ⟨by omega, szL_small ps (l - ps.length) (by omega) (by omega) h⟩
theorem szL_small : ∀ (ps : List Pi) (l : Int), 0 ≤ l → l ≤ 1048576 → 0 ≤ szL ps l → Smalls ps
  | [], _, _, _, _ => trivial
  | p :: ps, l, h0, h1, h => by
    simp only [szL] at h
    split at h
    · omega
    · have := szPi_le p l h0
      exact ⟨szPi_small p l h0 h1 (by omega), szL_small ps _ (by omega) (by omega) h⟩
end
end Go.Am
end
section
set_option maxRecDepth 10000
set_option linter.unusedSimpArgs false
set_option linter.unusedVariables false
namespace Go.Am
open Go.Proofs
theorem piName (k : Int) : callI G 85 [.i k] [] = some (.b (decide (0 ≤ k) && decide (k < 30)), []) := by
  rw [callI_eq]
  by_cases h : 0 ≤ k <;> simp [body1_eq _ _ (gp 85) g85, c85, a85, h]
theorem l6In (a b c : Int) : callI G 60 [.i a, .i b, .i c] [] = some (.b (decide (b ≤ a) && decide (a ≤ c)), []) := by
  rw [callI_eq]
  by_cases h : b ≤ a <;> simp [body1_eq _ _ (gp 60) g60, c60, a60, h]
theorem l13Name (a : Int) : callI G 101 [.i a] [] = some (.b (decide (0 ≤ a) && decide (a ≤ 29)), []) := by
  rw [callI_eq]
  simp [body1_eq _ _ (gp 101) g101, c101, a101, l6In]
/-- The names of a term are as its kind wants them; how many parts it has. -/
def nm (k : Int) : Bool := decide (0 ≤ k) && decide (k ≤ 29)
def kindOK (o x y : Int) : Option (Bool × Nat) :=
  if o = 0 then some (decide (x = 0) && decide (y = 0), 0)
  else if o = 3 then some (decide (x = 0) && decide (y = 0), 1)
  else if o = 4 ∨ o = 5 then some (decide (x = 0) && decide (y = 0), 2)
  else if o = 6 then some ((nm x && nm y) && decide (y < 3), 1)
  else if o = 1 ∨ o = 2 ∨ o = 7 then some (nm x && nm y, 1)
  else none
mutual
def nodes : Pi → Int
  | .mk o x y ps => match kindOK o x y with
    | none => 0
    | some (ok, k) => if ok = true ∧ ps.length = k then nodesL ps 1 else 0
def nodesL : List Pi → Int → Int
  | [], n => n
  | p :: ps, n => if nodes p = 0 then 0 else nodesL ps (if n + nodes p < 1000 then n + nodes p else 1000)
end
theorem loop37 (o a b : Int) (rest : List Pi) (ih : ∀ x ∈ rest, callI G 82 [enc x] [] = some (.i (nodes x), []) ∧ 0 ≤ nodes x ∧ nodes x ≤ 1000) :
    ∀ (done : List Pi) (n : Int), (done ++ rest).length ≤ 9223372036854775807 → 1 ≤ n → n ≤ 1000 → ∀ m : Int, m = (done ++ rest).length →
      loopI G [1, 3, 5, 6] [1] c82l0 ⟨[(1, .ref (0, 1) 1 0 0), (3, .i m), (5, .i n), (6, .i done.length)], [(1, .box [.i o, .i a, .i b, .sl false 4 (encs (done ++ rest))])], []⟩ =
        if nodesL rest n = 0 then some (.ret, ⟨[(2, .i 0)], [], []⟩) else some (.exit 1, ⟨[(1, .ref (0, 1) 1 0 0), (3, .i m), (5, .i (nodesL rest n)), (6, .i m), (72, .b false)], [(1, .box [.i o, .i a, .i b, .sl false 4 (encs (done ++ rest))])], []⟩) := by
  induction rest with
  | nil =>
    intro done n h h0 h1 m hm
    have hn0 : ¬ n = 0 := by omega
    subst hm
    rw [loopI_eq]
    simp [r82l0, b82l0, encs_len, nodesL, hn0]
  | cons x rest ih2 =>
    intro done n h h0 h1 m hm
    rw [loopI_eq]
    obtain ⟨hc, hx0, hx1⟩ := ih x List.mem_cons_self
    have hat := encs_at done x rest
    have hlt : (done.length : Int) < m := by rw [hm]; simp; omega
    have hlt2 : (done.length : Int) < (done.length : Int) + ((rest.length : Int) + 1) := by omega
    have hw : IntKind.i64.wrap ((done.length : Int) + 1) = (done.length : Int) + 1 := wr (by simp at h; omega)
    have hw2 : IntKind.i64.wrap (n + nodes x) = n + nodes x := wr (by omega)
    by_cases hs : nodes x = 0
    · obtain ⟨o', a', b', ps⟩ := x
      simp only [enc] at hc hat
      simp [r82l0, b82l0, encs_len, hat, hlt, hlt2, hc, hw, hs, nodesL]
    · have hn := ih2 (fun y hy => ih y (List.mem_cons_of_mem _ hy)) (done ++ [x]) (if n + nodes x < 1000 then n + nodes x else 1000) (by simpa using h) (by split <;> omega) (by split <;> omega) m (by simpa using hm)
      obtain ⟨o', a', b', ps⟩ := x
      simp only [enc] at hc hat
      simp [r82l0, b82l0, encs_len, hat, hlt, hlt2, hc, hw, hw2, hs]
      simpa [nodesL, hs, Int.add_assoc] using hn
end Go.Am
end
section
set_option maxRecDepth 10000
set_option linter.unusedSimpArgs false
set_option linter.unusedVariables false
namespace Go.Am
open Go.Proofs
theorem b37_0 (x y : Int) (ps : List Pi) (hl : ps.length ≤ 9223372036854775807) (ih : ∀ p ∈ ps, callI G 82 [enc p] [] = some (.i (nodes p), []) ∧ 0 ≤ nodes p ∧ nodes p ≤ 1000) : callI G 82 [enc (.mk 0 x y ps)] [] = some (.i (nodes (.mk 0 x y ps)), []) := by
  have hlp := fun o x y => loop37 o x y ps ih [] 1 (by simpa using hl) (by omega) (by omega)
  simp only [List.nil_append, List.length_nil, show ((0 : Nat) : Int) = 0 from rfl] at hlp
  have hnm : ∀ a, callI G 101 [.i a] [] = some (.b (nm a), []) := fun a => l13Name a
  rw [callI_eq]
  by_cases hk : (ps.length : Int) = 0
  · have hk2 : ps.length = 0 := by omega
    simp [body1_eq _ _ (gp 82) g82, c82, a82, enc, hnm, encs_len, hlp, hk, nodes, kindOK, hk2]
    repeat' split
    all_goals (try simp_all)
    all_goals (try omega)
  · have hk2 : ¬ ps.length = 0 := by omega
    simp [body1_eq _ _ (gp 82) g82, c82, a82, enc, hnm, encs_len, hk, nodes, kindOK, hk2]
theorem b37_1 (x y : Int) (ps : List Pi) (hl : ps.length ≤ 9223372036854775807) (ih : ∀ p ∈ ps, callI G 82 [enc p] [] = some (.i (nodes p), []) ∧ 0 ≤ nodes p ∧ nodes p ≤ 1000) : callI G 82 [enc (.mk 1 x y ps)] [] = some (.i (nodes (.mk 1 x y ps)), []) := by
  have hlp := fun o x y => loop37 o x y ps ih [] 1 (by simpa using hl) (by omega) (by omega)
  simp only [List.nil_append, List.length_nil, show ((0 : Nat) : Int) = 0 from rfl] at hlp
  have hnm : ∀ a, callI G 101 [.i a] [] = some (.b (nm a), []) := fun a => l13Name a
  rw [callI_eq]
  by_cases hk : (ps.length : Int) = 1
  · have hk2 : ps.length = 1 := by omega
    simp [body1_eq _ _ (gp 82) g82, c82, a82, enc, hnm, encs_len, hlp, hk, nodes, kindOK, hk2]
    repeat' split
    all_goals (try simp_all)
    all_goals (try omega)
  · have hk2 : ¬ ps.length = 1 := by omega
    simp [body1_eq _ _ (gp 82) g82, c82, a82, enc, hnm, encs_len, hk, nodes, kindOK, hk2]
theorem b37_2 (x y : Int) (ps : List Pi) (hl : ps.length ≤ 9223372036854775807) (ih : ∀ p ∈ ps, callI G 82 [enc p] [] = some (.i (nodes p), []) ∧ 0 ≤ nodes p ∧ nodes p ≤ 1000) : callI G 82 [enc (.mk 2 x y ps)] [] = some (.i (nodes (.mk 2 x y ps)), []) := by
  have hlp := fun o x y => loop37 o x y ps ih [] 1 (by simpa using hl) (by omega) (by omega)
  simp only [List.nil_append, List.length_nil, show ((0 : Nat) : Int) = 0 from rfl] at hlp
  have hnm : ∀ a, callI G 101 [.i a] [] = some (.b (nm a), []) := fun a => l13Name a
  rw [callI_eq]
  by_cases hk : (ps.length : Int) = 1
  · have hk2 : ps.length = 1 := by omega
    simp [body1_eq _ _ (gp 82) g82, c82, a82, enc, hnm, encs_len, hlp, hk, nodes, kindOK, hk2]
    repeat' split
    all_goals (try simp_all)
    all_goals (try omega)
  · have hk2 : ¬ ps.length = 1 := by omega
    simp [body1_eq _ _ (gp 82) g82, c82, a82, enc, hnm, encs_len, hk, nodes, kindOK, hk2]
theorem b37_3 (x y : Int) (ps : List Pi) (hl : ps.length ≤ 9223372036854775807) (ih : ∀ p ∈ ps, callI G 82 [enc p] [] = some (.i (nodes p), []) ∧ 0 ≤ nodes p ∧ nodes p ≤ 1000) : callI G 82 [enc (.mk 3 x y ps)] [] = some (.i (nodes (.mk 3 x y ps)), []) := by
  have hlp := fun o x y => loop37 o x y ps ih [] 1 (by simpa using hl) (by omega) (by omega)
  simp only [List.nil_append, List.length_nil, show ((0 : Nat) : Int) = 0 from rfl] at hlp
  have hnm : ∀ a, callI G 101 [.i a] [] = some (.b (nm a), []) := fun a => l13Name a
  rw [callI_eq]
  by_cases hk : (ps.length : Int) = 1
  · have hk2 : ps.length = 1 := by omega
    simp [body1_eq _ _ (gp 82) g82, c82, a82, enc, hnm, encs_len, hlp, hk, nodes, kindOK, hk2]
    repeat' split
    all_goals (try simp_all)
    all_goals (try omega)
  · have hk2 : ¬ ps.length = 1 := by omega
    simp [body1_eq _ _ (gp 82) g82, c82, a82, enc, hnm, encs_len, hk, nodes, kindOK, hk2]
theorem b37_4 (x y : Int) (ps : List Pi) (hl : ps.length ≤ 9223372036854775807) (ih : ∀ p ∈ ps, callI G 82 [enc p] [] = some (.i (nodes p), []) ∧ 0 ≤ nodes p ∧ nodes p ≤ 1000) : callI G 82 [enc (.mk 4 x y ps)] [] = some (.i (nodes (.mk 4 x y ps)), []) := by
  have hlp := fun o x y => loop37 o x y ps ih [] 1 (by simpa using hl) (by omega) (by omega)
  simp only [List.nil_append, List.length_nil, show ((0 : Nat) : Int) = 0 from rfl] at hlp
  have hnm : ∀ a, callI G 101 [.i a] [] = some (.b (nm a), []) := fun a => l13Name a
  rw [callI_eq]
  by_cases hk : (ps.length : Int) = 2
  · have hk2 : ps.length = 2 := by omega
    simp [body1_eq _ _ (gp 82) g82, c82, a82, enc, hnm, encs_len, hlp, hk, nodes, kindOK, hk2]
    repeat' split
    all_goals (try simp_all)
    all_goals (try omega)
  · have hk2 : ¬ ps.length = 2 := by omega
    simp [body1_eq _ _ (gp 82) g82, c82, a82, enc, hnm, encs_len, hk, nodes, kindOK, hk2]
theorem b37_5 (x y : Int) (ps : List Pi) (hl : ps.length ≤ 9223372036854775807) (ih : ∀ p ∈ ps, callI G 82 [enc p] [] = some (.i (nodes p), []) ∧ 0 ≤ nodes p ∧ nodes p ≤ 1000) : callI G 82 [enc (.mk 5 x y ps)] [] = some (.i (nodes (.mk 5 x y ps)), []) := by
  have hlp := fun o x y => loop37 o x y ps ih [] 1 (by simpa using hl) (by omega) (by omega)
  simp only [List.nil_append, List.length_nil, show ((0 : Nat) : Int) = 0 from rfl] at hlp
  have hnm : ∀ a, callI G 101 [.i a] [] = some (.b (nm a), []) := fun a => l13Name a
  rw [callI_eq]
  by_cases hk : (ps.length : Int) = 2
  · have hk2 : ps.length = 2 := by omega
    simp [body1_eq _ _ (gp 82) g82, c82, a82, enc, hnm, encs_len, hlp, hk, nodes, kindOK, hk2]
    repeat' split
    all_goals (try simp_all)
    all_goals (try omega)
  · have hk2 : ¬ ps.length = 2 := by omega
    simp [body1_eq _ _ (gp 82) g82, c82, a82, enc, hnm, encs_len, hk, nodes, kindOK, hk2]
theorem b37_6 (x y : Int) (ps : List Pi) (hl : ps.length ≤ 9223372036854775807) (ih : ∀ p ∈ ps, callI G 82 [enc p] [] = some (.i (nodes p), []) ∧ 0 ≤ nodes p ∧ nodes p ≤ 1000) : callI G 82 [enc (.mk 6 x y ps)] [] = some (.i (nodes (.mk 6 x y ps)), []) := by
  have hlp := fun o x y => loop37 o x y ps ih [] 1 (by simpa using hl) (by omega) (by omega)
  simp only [List.nil_append, List.length_nil, show ((0 : Nat) : Int) = 0 from rfl] at hlp
  have hnm : ∀ a, callI G 101 [.i a] [] = some (.b (nm a), []) := fun a => l13Name a
  rw [callI_eq]
  by_cases hk : (ps.length : Int) = 1
  · have hk2 : ps.length = 1 := by omega
    simp [body1_eq _ _ (gp 82) g82, c82, a82, enc, hnm, encs_len, hlp, hk, nodes, kindOK, hk2]
    repeat' split
    all_goals (try simp_all)
    all_goals (try omega)
  · have hk2 : ¬ ps.length = 1 := by omega
    simp [body1_eq _ _ (gp 82) g82, c82, a82, enc, hnm, encs_len, hk, nodes, kindOK, hk2]
theorem b37_7 (x y : Int) (ps : List Pi) (hl : ps.length ≤ 9223372036854775807) (ih : ∀ p ∈ ps, callI G 82 [enc p] [] = some (.i (nodes p), []) ∧ 0 ≤ nodes p ∧ nodes p ≤ 1000) : callI G 82 [enc (.mk 7 x y ps)] [] = some (.i (nodes (.mk 7 x y ps)), []) := by
  have hlp := fun o x y => loop37 o x y ps ih [] 1 (by simpa using hl) (by omega) (by omega)
  simp only [List.nil_append, List.length_nil, show ((0 : Nat) : Int) = 0 from rfl] at hlp
  have hnm : ∀ a, callI G 101 [.i a] [] = some (.b (nm a), []) := fun a => l13Name a
  rw [callI_eq]
  by_cases hk : (ps.length : Int) = 1
  · have hk2 : ps.length = 1 := by omega
    simp [body1_eq _ _ (gp 82) g82, c82, a82, enc, hnm, encs_len, hlp, hk, nodes, kindOK, hk2]
    repeat' split
    all_goals (try simp_all)
    all_goals (try omega)
  · have hk2 : ¬ ps.length = 1 := by omega
    simp [body1_eq _ _ (gp 82) g82, c82, a82, enc, hnm, encs_len, hk, nodes, kindOK, hk2]
theorem b37_d (o x y : Int) (ps : List Pi) (h : ¬ o = 0 ∧ ¬ o = 1 ∧ ¬ o = 2 ∧ ¬ o = 3 ∧ ¬ o = 4 ∧ ¬ o = 5 ∧ ¬ o = 6 ∧ ¬ o = 7) : callI G 82 [enc (.mk o x y ps)] [] = some (.i (nodes (.mk o x y ps)), []) := by
  obtain ⟨h0, h1, h2, h3, h4, h5, h6, h7⟩ := h
  have hnm : ∀ a, callI G 101 [.i a] [] = some (.b (nm a), []) := fun a => l13Name a
  rw [callI_eq]
  simp [body1_eq _ _ (gp 82) g82, c82, a82, enc, hnm, nodes, kindOK, h0, h1, h2, h3, h4, h5, h6, h7]
theorem nodesL_le : ∀ (ps : List Pi) (n : Int), (∀ p ∈ ps, 0 ≤ nodes p ∧ nodes p ≤ 1000) → 0 ≤ n → n ≤ 1000 → 0 ≤ nodesL ps n ∧ nodesL ps n ≤ 1000
  | [], n, _, h0, h1 => by simp [nodesL]; omega
  | p :: ps, n, h, h0, h1 => by
    have hp := h p List.mem_cons_self
    simp only [nodesL]
    split
    · omega
    · exact nodesL_le ps _ (fun q hq => h q (List.mem_cons_of_mem _ hq)) (by split <;> omega) (by split <;> omega)
mutual
theorem nodes_le : ∀ p : Pi, 0 ≤ nodes p ∧ nodes p ≤ 1000
  | .mk o x y ps => by
    simp only [nodes]
    split
    · omega
    · split
      · exact nodesL_le ps 1 (nodes_les ps) (by omega) (by omega)
      · omega
theorem nodes_les : ∀ (ps : List Pi), ∀ p ∈ ps, 0 ≤ nodes p ∧ nodes p ≤ 1000
  | [], p, h => by cases h
  | q :: ps, p, h => by
    rcases List.mem_cons.1 h with h | h
    · rw [h]; exact nodes_le q
    · exact nodes_les ps p h
end
mutual
theorem eq37 : ∀ p : Pi, Fit p → callI G 82 [enc p] [] = some (.i (nodes p), [])
  | .mk o x y ps, hf => by
    have ih := fun p hp => And.intro (eq37s ps hf.2 p hp) (nodes_le p)
    by_cases h0 : o = 0
    · rw [h0]; exact b37_0 x y ps hf.1 ih
    by_cases h1 : o = 1
    · rw [h1]; exact b37_1 x y ps hf.1 ih
    by_cases h2 : o = 2
    · rw [h2]; exact b37_2 x y ps hf.1 ih
    by_cases h3 : o = 3
    · rw [h3]; exact b37_3 x y ps hf.1 ih
    by_cases h4 : o = 4
    · rw [h4]; exact b37_4 x y ps hf.1 ih
    by_cases h5 : o = 5
    · rw [h5]; exact b37_5 x y ps hf.1 ih
    by_cases h6 : o = 6
    · rw [h6]; exact b37_6 x y ps hf.1 ih
    by_cases h7 : o = 7
    · rw [h7]; exact b37_7 x y ps hf.1 ih
    exact b37_d o x y ps ⟨h0, h1, h2, h3, h4, h5, h6, h7⟩
theorem eq37s : ∀ (ps : List Pi), Fits ps → ∀ p ∈ ps, callI G 82 [enc p] [] = some (.i (nodes p), [])
  | [], _, p, h => by cases h
  | q :: ps, hf, p, h => by
    rcases List.mem_cons.1 h with h | h
    · rw [h]; exact eq37 q hf.1
    · exact eq37s ps hf.2 p h
end
theorem eq10 (p : Pi) (hf : Fit p) : callI G 39 [enc p] [] = some (.b (decide (1 ≤ nodes p) && decide (nodes p ≤ 14)), []) := by
  have h := eq37 p hf
  rw [callI_eq]
  obtain ⟨o, x, y, ps⟩ := p
  simp only [enc] at h
  simp [body1_eq _ _ (gp 39) g39, c39, a39, enc, h, l6In]
end Go.Am
end
section
set_option maxRecDepth 10000
set_option linter.unusedSimpArgs false
set_option linter.unusedVariables false
namespace Go.Am
open Go.Proofs
mutual
def pn : Pi → Int → Int
  | .mk _ _ _ ps, m => pnL ps 1 m
def pnL : List Pi → Int → Int → Int
  | [], n, _ => n
  | p :: ps, n, m => if m < n then n else pnL ps (n + pn p (m - n)) m
end
mutual
theorem pn_le : ∀ (p : Pi) (m : Int), 0 ≤ m → 1 ≤ pn p m ∧ pn p m ≤ m + 1
  | .mk _ _ _ ps, m, h => by simp only [pn]; exact pnL_le ps 1 m h (by omega) (by omega)
theorem pnL_le : ∀ (ps : List Pi) (n m : Int), 0 ≤ m → 1 ≤ n → n ≤ m + 1 → 1 ≤ pnL ps n m ∧ pnL ps n m ≤ m + 1
  | [], n, m, h, h1, h2 => by simp only [pnL]; omega
  | p :: ps, n, m, h, h1, h2 => by
    simp only [pnL]
    split
    · omega
    · have := pn_le p (m - n) (by omega)
      exact pnL_le ps _ m h (by omega) (by omega)
end
theorem loop39 (m : Int) (hm0 : 0 ≤ m) (hm : m ≤ 1000) (rest : List Pi) (ih : ∀ x ∈ rest, ∀ m : Int, 0 ≤ m → m ≤ 1000 → callI G 41 [enc x, .i m] [] = some (.i (pn x m), [])) :
    ∀ (done : List Pi) (n : Int), (done ++ rest).length ≤ 9223372036854775807 → 1 ≤ n → n ≤ m + 1 →
      ∃ r, loopI G [1, 5, 9, 10, 11] [] c41l0 ⟨[(1, .i m), (5, .i n), (9, .sl false 4 (encs (done ++ rest))), (10, .i (done ++ rest).length), (11, .i done.length)], [], []⟩ = some r ∧
        (r = (.ret, ⟨[(4, .i (pnL rest n m))], [], []⟩) ∨ r = (.exit 0, ⟨[(1, .i m), (5, .i (pnL rest n m)), (9, .sl false 4 (encs (done ++ rest))), (10, .i (done ++ rest).length), (11, .i (done ++ rest).length), (12, .b false)], [], []⟩)) := by
  induction rest with
  | nil =>
    intro done n h h0 h1
    rw [loopI_eq]
    simp [r41l0, b41l0, encs_len, pnL]
  | cons x rest ih2 =>
    intro done n h h0 h1
    rw [loopI_eq]
    have hat := encs_at done x rest
    have hlt2 : (done.length : Int) < (done.length : Int) + ((rest.length : Int) + 1) := by omega
    have hw : IntKind.i64.wrap ((done.length : Int) + 1) = (done.length : Int) + 1 := wr (by simp at h; omega)
    by_cases hs : m < n
    · obtain ⟨o', a', b', ps⟩ := x
      simp only [enc] at hat
      simp [r41l0, b41l0, encs_len, hat, hlt2, hw, hs, pnL]
    · have hc := ih x List.mem_cons_self (m - n) (by omega) (by omega)
      have hb := pn_le x (m - n) (by omega)
      have hw2 : IntKind.i64.wrap (n + pn x (m - n)) = n + pn x (m - n) := wr (by omega)
      have hw3 : IntKind.i64.wrap (m - n) = m - n := wr (by omega)
      have hn := ih2 (fun y hy => ih y (List.mem_cons_of_mem _ hy)) (done ++ [x]) (n + pn x (m - n)) (by simpa using h) (by omega) (by omega)
      obtain ⟨o', a', b', ps⟩ := x
      simp only [enc] at hc hat
      simp [r41l0, b41l0, encs_len, hat, hlt2, hc, hw, hw2, hw3, hs]
      simpa [pnL, hs, Int.add_assoc] using hn
mutual
theorem eq39 : ∀ p : Pi, Fit p → ∀ m : Int, 0 ≤ m → m ≤ 1000 → callI G 41 [enc p, .i m] [] = some (.i (pn p m), [])
  | .mk o x y ps, hf, m, h0, h1 => by
    obtain ⟨r, hl, hr⟩ := loop39 m h0 h1 ps (eq39s ps hf.2) [] 1 (by simpa using hf.1) (by omega) (by omega)
    simp only [List.nil_append, List.length_nil, show ((0 : Nat) : Int) = 0 from rfl] at hl hr
    rw [callI_eq]
    rcases hr with hr | hr <;> simp [body1_eq _ _ (gp 41) g41, c41, a41, enc, encs_len, hl, hr, pn]
theorem eq39s : ∀ ps : List Pi, Fits ps → ∀ p ∈ ps, ∀ m : Int, 0 ≤ m → m ≤ 1000 → callI G 41 [enc p, .i m] [] = some (.i (pn p m), [])
  | [], _, p, h => by cases h
  | q :: ps, hf, p, h => by
    rcases List.mem_cons.1 h with h | h
    · rw [h]; exact eq39 q hf.1
    · exact eq39s ps hf.2 p h
end
/-- slices.IndexFunc with a closure that holds nothing. -/
theorem loop73 (cf : Nat) (F : Pi → Bool) (rest : List Pi) (ih : ∀ x ∈ rest, callI G cf [enc x] [] = some (.b (F x), [])) :
    ∀ (done : List Pi), (done ++ rest).length ≤ 9223372036854775807 →
      ∃ r, loopI G [0, 1, 7, 8] [] c102l0 ⟨[(0, .sl false 4 (encs (done ++ rest))), (1, .clo cf []), (7, .i (done ++ rest).length), (8, .i done.length)], [], []⟩ = some r ∧
        ((rest.any F = true ∧ ∃ i : Int, 0 ≤ i ∧ r = (.ret, ⟨[(4, .i i)], [], []⟩)) ∨ (rest.any F = false ∧ r = (.exit 0, ⟨[(0, .sl false 4 (encs (done ++ rest))), (1, .clo cf []), (7, .i (done ++ rest).length), (8, .i (done ++ rest).length), (9, .b false)], [], []⟩))) := by
  induction rest with
  | nil =>
    intro done h
    rw [loopI_eq]
    simp [r102l0, b102l0, encs_len]
  | cons x rest ih2 =>
    intro done h
    rw [loopI_eq]
    have hat := encs_at done x rest
    have hlt2 : (done.length : Int) < (done.length : Int) + ((rest.length : Int) + 1) := by omega
    have hw : IntKind.i64.wrap ((done.length : Int) + 1) = (done.length : Int) + 1 := wr (by simp at h; omega)
    have hc := ih x List.mem_cons_self
    by_cases hs : F x = true
    · obtain ⟨o', a', b', ps⟩ := x
      simp only [enc] at hat hc
      simp [r102l0, b102l0, encs_len, hat, hlt2, hc, hw, hs]
    · have hs2 : F x = false := by simpa using hs
      have hn := ih2 (fun y hy => ih y (List.mem_cons_of_mem _ hy)) (done ++ [x]) (by simpa using h)
      obtain ⟨o', a', b', ps⟩ := x
      simp only [enc] at hc hat
      simp [r102l0, b102l0, encs_len, hat, hlt2, hc, hw, hs2]
      simpa [hs2, Int.add_assoc] using hn
theorem eq53 (cf : Nat) (F : Pi → Bool) (ps : List Pi) (hl : ps.length ≤ 9223372036854775807) (ih : ∀ x ∈ ps, callI G cf [enc x] [] = some (.b (F x), [])) : callI G 86 [.sl false 4 (encs ps), .clo cf []] [] = some (.b (ps.any F), []) := by
  have h73 : ∃ i : Int, (decide (0 ≤ i)) = ps.any F ∧ callI G 102 [.sl false 4 (encs ps), .clo cf []] [] = some (.i i, []) := by
    obtain ⟨r, hl, hr⟩ := loop73 cf F ps ih [] (by simpa using hl)
    simp only [List.nil_append, List.length_nil, show ((0 : Nat) : Int) = 0 from rfl] at hl hr
    rcases hr with ⟨ha, i, hi, hr⟩ | ⟨ha, hr⟩
    · refine ⟨i, by simp [ha, hi], ?_⟩
      rw [callI_eq]
      simp [body1_eq _ _ (gp 102) g102, c102, a102, encs_len, hl, hr]
    · refine ⟨-1, by simp [ha], ?_⟩
      rw [callI_eq]
      simp [body1_eq _ _ (gp 102) g102, c102, a102, encs_len, hl, hr]
  obtain ⟨i, hi, hc⟩ := h73
  rw [callI_eq]
  simp [body1_eq _ _ (gp 86) g86, c86, a86, hc, hi]
end Go.Am
end
section
set_option maxRecDepth 10000
set_option linter.unusedSimpArgs false
set_option linter.unusedVariables false
namespace Go.Am
open Go.Proofs
mutual
def shape : Pi → Bool
  | .mk o x y ps => match kindOK o x y with
    | none => false
    | some (ok, k) => ok && (decide (ps.length = k) && shapes ps)
def shapes : List Pi → Bool
  | [] => true
  | p :: ps => shape p && shapes ps
end
theorem any_not_shape : ∀ ps : List Pi, ps.any (fun p => !shape p) = !shapes ps
  | [] => rfl
  | p :: ps => by simp [shapes, any_not_shape ps]
theorem eq58 (k : Int) : callI G 85 [.i k] [] = some (.b (nm k), []) := by
  rw [piName]
  have : decide (k < 30) = decide (k ≤ 29) := by
    by_cases h : k < 30
    · have : k ≤ 29 := by omega
      simp [h, this]
    · have : ¬ k ≤ 29 := by omega
      simp [h, this]
  simp [nm, this]
theorem eq61 (x : Pi) (b : Bool) (h : callI G 42 [enc x] [] = some (.b b, [])) : callI G 87 [enc x] [] = some (.b (!b), []) := by
  rw [callI_eq]
  obtain ⟨o', a', b', ps⟩ := x
  simp only [enc] at h
  simp [body1_eq _ _ (gp 87) g87, c87, a87, enc, h]
theorem b40_0 (x y : Int) (ps : List Pi) (hl : ps.length ≤ 9223372036854775807) (ih : ∀ p ∈ ps, callI G 42 [enc p] [] = some (.b (shape p), [])) : callI G 42 [enc (.mk 0 x y ps)] [] = some (.b (shape (.mk 0 x y ps)), []) := by
  have h53 := eq53 87 (fun p => !shape p) ps hl (fun x hx => eq61 x _ (ih x hx))
  simp only [any_not_shape] at h53
  rw [callI_eq]
  by_cases hk : (ps.length : Int) = 0
  · have hk2 : ps.length = 0 := by omega
    simp [body1_eq _ _ (gp 42) g42, c42, a42, enc, eq58, encs_len, h53, hk, shape, kindOK, hk2]
    repeat' split
    all_goals (try simp_all)
    all_goals (try omega)
  · have hk2 : ¬ ps.length = 0 := by omega
    simp [body1_eq _ _ (gp 42) g42, c42, a42, enc, eq58, encs_len, hk, shape, kindOK, hk2]
theorem b40_1 (x y : Int) (ps : List Pi) (hl : ps.length ≤ 9223372036854775807) (ih : ∀ p ∈ ps, callI G 42 [enc p] [] = some (.b (shape p), [])) : callI G 42 [enc (.mk 1 x y ps)] [] = some (.b (shape (.mk 1 x y ps)), []) := by
  have h53 := eq53 87 (fun p => !shape p) ps hl (fun x hx => eq61 x _ (ih x hx))
  simp only [any_not_shape] at h53
  rw [callI_eq]
  by_cases hk : (ps.length : Int) = 1
  · have hk2 : ps.length = 1 := by omega
    simp [body1_eq _ _ (gp 42) g42, c42, a42, enc, eq58, encs_len, h53, hk, shape, kindOK, hk2]
    repeat' split
    all_goals (try simp_all)
    all_goals (try omega)
  · have hk2 : ¬ ps.length = 1 := by omega
    simp [body1_eq _ _ (gp 42) g42, c42, a42, enc, eq58, encs_len, hk, shape, kindOK, hk2]
theorem b40_2 (x y : Int) (ps : List Pi) (hl : ps.length ≤ 9223372036854775807) (ih : ∀ p ∈ ps, callI G 42 [enc p] [] = some (.b (shape p), [])) : callI G 42 [enc (.mk 2 x y ps)] [] = some (.b (shape (.mk 2 x y ps)), []) := by
  have h53 := eq53 87 (fun p => !shape p) ps hl (fun x hx => eq61 x _ (ih x hx))
  simp only [any_not_shape] at h53
  rw [callI_eq]
  by_cases hk : (ps.length : Int) = 1
  · have hk2 : ps.length = 1 := by omega
    simp [body1_eq _ _ (gp 42) g42, c42, a42, enc, eq58, encs_len, h53, hk, shape, kindOK, hk2]
    repeat' split
    all_goals (try simp_all)
    all_goals (try omega)
  · have hk2 : ¬ ps.length = 1 := by omega
    simp [body1_eq _ _ (gp 42) g42, c42, a42, enc, eq58, encs_len, hk, shape, kindOK, hk2]
theorem b40_3 (x y : Int) (ps : List Pi) (hl : ps.length ≤ 9223372036854775807) (ih : ∀ p ∈ ps, callI G 42 [enc p] [] = some (.b (shape p), [])) : callI G 42 [enc (.mk 3 x y ps)] [] = some (.b (shape (.mk 3 x y ps)), []) := by
  have h53 := eq53 87 (fun p => !shape p) ps hl (fun x hx => eq61 x _ (ih x hx))
  simp only [any_not_shape] at h53
  rw [callI_eq]
  by_cases hk : (ps.length : Int) = 1
  · have hk2 : ps.length = 1 := by omega
    simp [body1_eq _ _ (gp 42) g42, c42, a42, enc, eq58, encs_len, h53, hk, shape, kindOK, hk2]
    repeat' split
    all_goals (try simp_all)
    all_goals (try omega)
  · have hk2 : ¬ ps.length = 1 := by omega
    simp [body1_eq _ _ (gp 42) g42, c42, a42, enc, eq58, encs_len, hk, shape, kindOK, hk2]
theorem b40_4 (x y : Int) (ps : List Pi) (hl : ps.length ≤ 9223372036854775807) (ih : ∀ p ∈ ps, callI G 42 [enc p] [] = some (.b (shape p), [])) : callI G 42 [enc (.mk 4 x y ps)] [] = some (.b (shape (.mk 4 x y ps)), []) := by
  have h53 := eq53 87 (fun p => !shape p) ps hl (fun x hx => eq61 x _ (ih x hx))
  simp only [any_not_shape] at h53
  rw [callI_eq]
  by_cases hk : (ps.length : Int) = 2
  · have hk2 : ps.length = 2 := by omega
    simp [body1_eq _ _ (gp 42) g42, c42, a42, enc, eq58, encs_len, h53, hk, shape, kindOK, hk2]
    repeat' split
    all_goals (try simp_all)
    all_goals (try omega)
  · have hk2 : ¬ ps.length = 2 := by omega
    simp [body1_eq _ _ (gp 42) g42, c42, a42, enc, eq58, encs_len, hk, shape, kindOK, hk2]
theorem b40_5 (x y : Int) (ps : List Pi) (hl : ps.length ≤ 9223372036854775807) (ih : ∀ p ∈ ps, callI G 42 [enc p] [] = some (.b (shape p), [])) : callI G 42 [enc (.mk 5 x y ps)] [] = some (.b (shape (.mk 5 x y ps)), []) := by
  have h53 := eq53 87 (fun p => !shape p) ps hl (fun x hx => eq61 x _ (ih x hx))
  simp only [any_not_shape] at h53
  rw [callI_eq]
  by_cases hk : (ps.length : Int) = 2
  · have hk2 : ps.length = 2 := by omega
    simp [body1_eq _ _ (gp 42) g42, c42, a42, enc, eq58, encs_len, h53, hk, shape, kindOK, hk2]
    repeat' split
    all_goals (try simp_all)
    all_goals (try omega)
  · have hk2 : ¬ ps.length = 2 := by omega
    simp [body1_eq _ _ (gp 42) g42, c42, a42, enc, eq58, encs_len, hk, shape, kindOK, hk2]
theorem b40_6 (x y : Int) (ps : List Pi) (hl : ps.length ≤ 9223372036854775807) (ih : ∀ p ∈ ps, callI G 42 [enc p] [] = some (.b (shape p), [])) : callI G 42 [enc (.mk 6 x y ps)] [] = some (.b (shape (.mk 6 x y ps)), []) := by
  have h53 := eq53 87 (fun p => !shape p) ps hl (fun x hx => eq61 x _ (ih x hx))
  simp only [any_not_shape] at h53
  rw [callI_eq]
  by_cases hk : (ps.length : Int) = 1
  · have hk2 : ps.length = 1 := by omega
    simp [body1_eq _ _ (gp 42) g42, c42, a42, enc, eq58, encs_len, h53, hk, shape, kindOK, hk2]
    have hy : (!decide (y < 0) && !decide (3 ≤ y)) = (nm y && decide (y < 3)) := by
      unfold nm
      by_cases h1 : y < 0
      · have : ¬ 0 ≤ y := by omega
        simp [h1, this]
      · by_cases h2 : y < 3
        · have a1 : 0 ≤ y := by omega
          have a2 : y ≤ 29 := by omega
          have a3 : ¬ 3 ≤ y := by omega
          simp [h1, h2, a1, a2, a3]
        · have a3 : 3 ≤ y := by omega
          simp [h2, a3]
    rw [hy]; simp only [Bool.and_assoc]
  · have hk2 : ¬ ps.length = 1 := by omega
    simp [body1_eq _ _ (gp 42) g42, c42, a42, enc, eq58, encs_len, hk, shape, kindOK, hk2]
theorem b40_7 (x y : Int) (ps : List Pi) (hl : ps.length ≤ 9223372036854775807) (ih : ∀ p ∈ ps, callI G 42 [enc p] [] = some (.b (shape p), [])) : callI G 42 [enc (.mk 7 x y ps)] [] = some (.b (shape (.mk 7 x y ps)), []) := by
  have h53 := eq53 87 (fun p => !shape p) ps hl (fun x hx => eq61 x _ (ih x hx))
  simp only [any_not_shape] at h53
  rw [callI_eq]
  by_cases hk : (ps.length : Int) = 1
  · have hk2 : ps.length = 1 := by omega
    simp [body1_eq _ _ (gp 42) g42, c42, a42, enc, eq58, encs_len, h53, hk, shape, kindOK, hk2]
    repeat' split
    all_goals (try simp_all)
    all_goals (try omega)
  · have hk2 : ¬ ps.length = 1 := by omega
    simp [body1_eq _ _ (gp 42) g42, c42, a42, enc, eq58, encs_len, hk, shape, kindOK, hk2]
theorem b40_d (o x y : Int) (ps : List Pi) (h : ¬ o = 0 ∧ ¬ o = 1 ∧ ¬ o = 2 ∧ ¬ o = 3 ∧ ¬ o = 4 ∧ ¬ o = 5 ∧ ¬ o = 6 ∧ ¬ o = 7) : callI G 42 [enc (.mk o x y ps)] [] = some (.b (shape (.mk o x y ps)), []) := by
  obtain ⟨h0, h1, h2, h3, h4, h5, h6, h7⟩ := h
  rw [callI_eq]
  simp [body1_eq _ _ (gp 42) g42, c42, a42, enc, eq58, shape, kindOK, h0, h1, h2, h3, h4, h5, h6, h7]
mutual
theorem eq40 : ∀ p : Pi, Fit p → callI G 42 [enc p] [] = some (.b (shape p), [])
  | .mk o x y ps, hf => by
    have ih := eq40s ps hf.2
    by_cases h0 : o = 0
    · rw [h0]; exact b40_0 x y ps hf.1 ih
    by_cases h1 : o = 1
    · rw [h1]; exact b40_1 x y ps hf.1 ih
    by_cases h2 : o = 2
    · rw [h2]; exact b40_2 x y ps hf.1 ih
    by_cases h3 : o = 3
    · rw [h3]; exact b40_3 x y ps hf.1 ih
    by_cases h4 : o = 4
    · rw [h4]; exact b40_4 x y ps hf.1 ih
    by_cases h5 : o = 5
    · rw [h5]; exact b40_5 x y ps hf.1 ih
    by_cases h6 : o = 6
    · rw [h6]; exact b40_6 x y ps hf.1 ih
    by_cases h7 : o = 7
    · rw [h7]; exact b40_7 x y ps hf.1 ih
    exact b40_d o x y ps ⟨h0, h1, h2, h3, h4, h5, h6, h7⟩
theorem eq40s : ∀ (ps : List Pi), Fits ps → ∀ p ∈ ps, callI G 42 [enc p] [] = some (.b (shape p), [])
  | [], _, p, h => by cases h
  | q :: ps, hf, p, h => by
    rcases List.mem_cons.1 h with h | h
    · rw [h]; exact eq40 q hf.1
    · exact eq40s ps hf.2 p h
end
theorem eq12 (p : Pi) (hf : Fit p) : callI G 14 [enc p] [] = some (.b (decide (pn p 14 ≤ 14) && shape p), []) := by
  have h := eq39 p hf 14 (by omega) (by omega)
  have h2 := eq40 p hf
  rw [callI_eq]
  obtain ⟨o, x, y, ps⟩ := p
  simp only [enc] at h h2
  simp [body1_eq _ _ (gp 14) g14, c14, a14, enc, h, h2]
end Go.Am
end
section
set_option maxRecDepth 10000
set_option linter.unusedSimpArgs false
set_option linter.unusedVariables false
namespace Go.Am
open Go.Proofs
/-! #### the plain law -/
/-! How many nodes there are. -/
mutual
def cnt : Pi → Int
  | .mk _ _ _ ps => 1 + cnts ps
def cnts : List Pi → Int
  | [] => 0
  | p :: ps => cnt p + cnts ps
end
mutual
theorem cnt_pos : ∀ p : Pi, 1 ≤ cnt p
  | .mk _ _ _ ps => by have := cnts_pos ps; simp only [cnt]; omega
theorem cnts_pos : ∀ ps : List Pi, 0 ≤ cnts ps
  | [] => by simp [cnts]
  | p :: ps => by have h1 := cnt_pos p; have h2 := cnts_pos ps; simp only [cnts]; omega
end
mutual
theorem pn_cnt : ∀ (p : Pi) (m : Int), 0 ≤ m → (cnt p ≤ m → pn p m = cnt p) ∧ (m < cnt p → pn p m = m + 1)
  | .mk _ _ _ ps, m, h => by
    have := pnL_cnt ps 1 m h (by omega) (by omega)
    simp only [pn, cnt]
    exact this
theorem pnL_cnt : ∀ (ps : List Pi) (n m : Int), 0 ≤ m → 1 ≤ n → n ≤ m + 1 → (n + cnts ps ≤ m → pnL ps n m = n + cnts ps) ∧ (m < n + cnts ps → pnL ps n m = m + 1)
  | [], n, m, h, h1, h2 => by simp only [pnL, cnts]; omega
  | p :: ps, n, m, h, h1, h2 => by
    have hp := cnt_pos p
    have hps := cnts_pos ps
    simp only [pnL, cnts]
    split
    · omega
    · have := pn_cnt p (m - n) (by omega)
      have hb := pn_le p (m - n) (by omega)
      have h3 := pnL_cnt ps (n + pn p (m - n)) m h (by omega) (by omega)
      by_cases hc : cnt p ≤ m - n
      · rw [this.1 hc] at h3 ⊢
        constructor
        · intro h4; rw [h3.1 (by omega)]; omega
        · intro h4; exact h3.2 (by omega)
      · rw [this.2 (by omega)] at h3 ⊢
        constructor
        · intro h4; omega
        · intro h4; exact h3.2 (by omega)
end
mutual
theorem nodes_cnt : ∀ p : Pi, nodes p = if shape p = true then (if cnt p < 1000 then cnt p else 1000) else 0
  | .mk o x y ps => by
    rcases hk : kindOK o x y with _ | ⟨ok, k⟩
    · have e1 : nodes (.mk o x y ps) = 0 := by simp [nodes, hk]
      have e2 : shape (.mk o x y ps) = false := by simp [shape, hk]
      simp [e1, e2]
    · have e1 : nodes (.mk o x y ps) = if ok = true ∧ ps.length = k then nodesL ps 1 else 0 := by simp [nodes, hk]
      have e2 : shape (.mk o x y ps) = (ok && (decide (ps.length = k) && shapes ps)) := by simp [shape, hk]
      have hL := nodesL_cnt ps 1 (by omega) (by omega)
      rw [e1, hL]
      by_cases h1 : ok = true <;> by_cases h2 : ps.length = k <;> by_cases h3 : shapes ps = true <;> simp [e2, h1, h2, h3, cnt] <;> (by_cases h4 : 1 + cnts ps < 1000 <;> simp [h4])
theorem nodesL_cnt : ∀ (ps : List Pi) (n : Int), 1 ≤ n → n ≤ 1000 → nodesL ps n = if shapes ps = true then (if n + cnts ps < 1000 then n + cnts ps else 1000) else 0
  | [], n, h, h1 => by
    simp only [nodesL, shapes, cnts]
    simp
    omega
  | p :: ps, n, h, h1 => by
    have hp := nodes_cnt p
    have hc := cnt_pos p
    have hcs := cnts_pos ps
    have hC : cnts (p :: ps) = cnt p + cnts ps := rfl
    simp only [nodesL]
    generalize cnts (p :: ps) = C at hC ⊢
    by_cases hs : shape p = true
    · rw [hs, if_pos rfl] at hp
      have hz : ¬ nodes p = 0 := by rw [hp]; split <;> omega
      rw [if_neg hz, nodesL_cnt ps _ (by rw [hp]; split <;> split <;> omega) (by split <;> omega)]
      by_cases hss : shapes ps = true
      · have e : shapes (p :: ps) = true := by simp [shapes, hs, hss]
        rw [if_pos hss, if_pos e, hp]
        by_cases a1 : cnt p < 1000
        · simp only [a1, if_true]
          by_cases a2 : n + cnt p < 1000
          · simp only [a2, if_true]; split <;> split <;> omega
          · simp only [a2, if_false]; split <;> split <;> omega
        · have a2 : ¬ n + 1000 < 1000 := by omega
          simp only [a1, if_false, a2]; split <;> split <;> omega
      · have e : ¬ shapes (p :: ps) = true := by simp [shapes, hss]
        rw [if_neg hss, if_neg e]
    · have e : ¬ shapes (p :: ps) = true := by simp [shapes, hs]
      rw [if_neg hs] at hp
      rw [if_pos hp, if_neg e]
end
theorem plain_ok (p : Pi) : (decide (1 ≤ nodes p) && decide (nodes p ≤ 14)) = (decide (pn p 14 ≤ 14) && shape p) := by
  have h1 := nodes_cnt p
  have h2 := pn_cnt p 14 (by omega)
  have h3 := cnt_pos p
  by_cases hs : shape p = true
  · rw [if_pos hs] at h1
    rw [h1, hs]
    by_cases hc : cnt p ≤ 14
    · rw [h2.1 hc]
      have a1 : cnt p < 1000 := by omega
      simp [hc, a1, h3]
    · rw [h2.2 (by omega)]
      have a1 : ¬ (if cnt p < 1000 then cnt p else 1000) ≤ 14 := by split <;> omega
      simp [a1]
  · have hs2 : shape p = false := by simpa using hs
    rw [if_neg hs] at h1
    simp [h1, hs2]
end Go.Am
end
section
set_option maxRecDepth 10000
set_option linter.unusedSimpArgs false
set_option linter.unusedVariables false
namespace Go.Am
open Go.Proofs
/-! #### lists of booleans -/
def bls : List Bool → List PV
  | [] => []
  | b :: bs => .b b :: bls bs
@[simp] theorem bls_len : ∀ xs : List Bool, (bls xs).length = xs.length
  | [] => rfl
  | _ :: xs => by simp [bls, bls_len xs]
theorem bls_app : ∀ a b : List Bool, bls (a ++ b) = bls a ++ bls b
  | [], _ => rfl
  | _ :: a, b => by simp [bls, bls_app a b]
theorem bls_at (a : List Bool) (x : Bool) (b : List Bool) (n : Nat) (h : n = a.length) : (bls (a ++ x :: b))[n]? = some (.b x) := by
  subst h
  rw [bls_app, List.getElem?_append_right (by simp)]
  simp [bls]
theorem bls_set : ∀ (a : List Bool) (n : Nat) (y : Bool), (bls a).set n (.b y) = bls (a.set n y)
  | [], _, _ => rfl
  | b :: a, 0, y => rfl
  | b :: a, n + 1, y => by simp [bls, bls_set a n y]
@[simp] theorem plains_bls : ∀ a : List Bool, plains (bls a) = true
  | [] => rfl
  | b :: a => by simp [bls, plains_bls a]
@[simp] theorem knowns_bls (g : Nat → Bool) (n : Nat) : ∀ a : List Bool, knowns g n (bls a) = true
  | [] => rfl
  | b :: a => by simp [bls, knowns_bls g n a]
@[simp] theorem allc_bls : ∀ a : List Bool, (bls a).all cellP = true
  | [] => rfl
  | b :: a => by simp only [bls, List.all_cons, allc_bls a]; rfl
@[simp] theorem noRefs_bls : ∀ a : List Bool, noRefs (bls a) = true
  | [] => rfl
  | b :: a => by simp [bls, noRefs_bls a]
@[simp] theorem noShares_bls : ∀ a : List Bool, noShares (bls a) = true
  | [] => rfl
  | b :: a => by simp [bls, noShares_bls a]
@[simp] theorem atLvls_bls (n : Nat) : ∀ a : List Bool, atLvls n (bls a) = false
  | [] => rfl
  | b :: a => by simp [bls, atLvls_bls n a]
@[simp] theorem upTos_bls (n : Nat) : ∀ a : List Bool, upTos n (bls a) = true
  | [] => rfl
  | b :: a => by simp [bls, upTos_bls n a]
@[simp] theorem expos_bls (n : Nat) (g) : ∀ a : List Bool, expos n g (bls a) = some (bls a, [])
  | [] => rfl
  | b :: a => by simp [bls, expos_bls n g a]
@[simp] theorem impos_bls (n d : Nat) : ∀ (a : List Bool) (q : Nat), impos n d (bls a) q = (bls a, q, [])
  | [], _ => rfl
  | b :: a, q => by simp [bls, impos_bls n d a q]
@[simp] theorem snaps_bls (g) : ∀ a : List Bool, snaps g (bls a) = some (bls a)
  | [] => rfl
  | b :: a => by simp [bls, snaps_bls g a]
@[simp] theorem rowIds_bls (g) : ∀ a : List Bool, rowIds g (bls a) = []
  | [] => rfl
  | b :: a => by simp [bls, rowIds_bls g a]
/-! #### what a term binds and uses -/
def bnd (o x y : Int) : Int := if o = 2 then y else if o = 6 then x else -1
def usesL (o x y : Int) : List Int := if o = 1 ∨ o = 7 then [x, y] else if o = 2 then [x] else []
def usB (us : List Int) (n : Int) : Bool := us.any (fun u => decide (u = n))
def usesV (o x y : Int) : PV := if o = 1 ∨ o = 7 then .sl true 1 [.i x, .i y] else if o = 2 then .sl true 1 [.i x] else .nils
theorem eqBindsI (o x y : Int) (ps : List Pi) : callI G 80 [enc (.mk o x y ps)] [] = some (.i (bnd o x y), []) := by
  rw [callI_eq]
  by_cases h : o = 2 <;> by_cases h2 : o = 6 <;> simp [body1_eq _ _ (gp 80) g80, c80, a80, enc, h, h2, bnd]
theorem eqBindsS (o x y : Int) (ps : List Pi) : callI G 84 [enc (.mk o x y ps)] [] = some (.i (bnd o x y), []) := by
  rw [callI_eq]
  by_cases h : o = 2 <;> by_cases h2 : o = 6 <;> simp [body1_eq _ _ (gp 84) g84, c84, a84, enc, h, h2, bnd]
theorem eqUsesI (o x y : Int) (ps : List Pi) : callI G 81 [enc (.mk o x y ps)] [] = some (usesV o x y, []) := by
  rw [callI_eq]
  by_cases h : o = 1 <;> by_cases h2 : o = 7 <;> by_cases h3 : o = 2 <;> simp [body1_eq _ _ (gp 81) g81, c81, a81, enc, h, h2, h3, usesV]
theorem eqUsesS (o x y : Int) (ps : List Pi) (n : Int) : callI G 83 [enc (.mk o x y ps), .i n] [] = some (.b (usB (usesL o x y) n), []) := by
  rw [callI_eq]
  by_cases h : o = 1 <;> by_cases h2 : o = 7 <;> by_cases h3 : o = 2 <;> simp [body1_eq _ _ (gp 83) g83, c83, a83, enc, h, h2, h3, usesL, usB]
/-! #### impl.free -/
def orL : List Bool → List Bool → List Bool
  | a :: r, b :: bs => (a || b) :: orL r bs
  | r, _ => r
theorem orL_len : ∀ a b : List Bool, (orL a b).length = a.length
  | [], _ => by simp [orL]
  | _ :: _, [] => by simp [orL]
  | a :: r, b :: bs => by simp [orL, orL_len r bs]
def bset (b : Int) (bs : List Bool) : List Bool := if 0 ≤ b then bs.set b.toNat false else bs
def usets : List Int → List Bool → List Bool
  | [], bs => bs
  | u :: us, bs => usets us (bs.set u.toNat true)
theorem usets_len : ∀ (us : List Int) (bs : List Bool), (usets us bs).length = bs.length
  | [], _ => rfl
  | u :: us, bs => by simp [usets, usets_len us]
mutual
def fre : Pi → List Bool
  | .mk o x y ps => usets (usesL o x y) (bset (bnd o x y) (freL ps (List.replicate 30 false)))
def freL : List Pi → List Bool → List Bool
  | [], acc => acc
  | p :: ps, acc => freL ps (orL acc (fre p))
end
theorem freL_len : ∀ (ps : List Pi) (acc : List Bool), (freL ps acc).length = acc.length
  | [], _ => rfl
  | p :: ps, acc => by simp [freL, freL_len ps, orL_len]
theorem bset_len (b : Int) (bs : List Bool) : (bset b bs).length = bs.length := by unfold bset; split <;> simp
theorem fre_len : ∀ p : Pi, (fre p).length = 30
  | .mk o x y ps => by simp [fre, usets_len, bset_len, freL_len]
abbrev Z30 : List PV := [.b false, .b false, .b false, .b false, .b false, .b false, .b false, .b false, .b false, .b false, .b false, .b false, .b false, .b false, .b false, .b false, .b false, .b false, .b false, .b false, .b false, .b false, .b false, .b false, .b false, .b false, .b false, .b false, .b false, .b false]
theorem z30 : bls (List.replicate 30 false) = Z30 := rfl
theorem loopFre0 (T : List PV) (hT : T.all cellP = true) (hk : ∀ g n, knowns g n T = true) (S : PV) (hS : ∀ g n, known g n S = true) (N I : Int) :
    ∀ (br cr bd cd : List Bool), bd.length = cd.length → br.length = cr.length → bd.length + br.length = 30 → ∀ i : Int, i = bd.length →
      loopI G [1, 2, 3, 13, 14, 15, 20, 21] [1, 2, 3] c38l0 ⟨[(1, .ref (0, 1) 1 0 0), (2, .ref (0, 2) 1 0 0), (3, .ref (0, 3) 1 0 0), (13, S), (14, .i N), (15, .i I), (20, .agg (bls (cd ++ cr))), (21, .i i)], [(1, .box T), (2, .box Z30), (3, .box (bls (bd ++ br)))], []⟩ =
        some (.exit 2, ⟨[(1, .ref (0, 1) 1 0 0), (2, .ref (0, 2) 1 0 0), (3, .ref (0, 3) 1 0 0), (13, S), (14, .i N), (15, .i I), (20, .agg (bls (cd ++ cr))), (21, .i 30), (22, .b false)], [(1, .box T), (2, .box Z30), (3, .box (bls (bd ++ orL br cr)))], []⟩)
  | [], cr, bd, cd, h1, h2, h3, i, hi => by
    rw [loopI_eq]
    have h4 : cr = [] := by cases cr with | nil => rfl | cons _ _ => simp at h2
    have h5 : i = 30 := by simp at h3; omega
    subst h4 h5
    simp [r38l0, b38l0, orL, hk, hS]
  | b :: br, cr, bd, cd, h1, h2, h3, i, hi => by
    rw [loopI_eq]
    rcases cr with _ | ⟨c, cr⟩
    · simp at h2
    have hlt : i < 30 := by simp at h3; omega
    have hge : 0 ≤ i := by omega
    have hb1 := bls_at bd b br i.toNat (by omega)
    have hc1 := bls_at cd c cr i.toNat (by omega)
    have hs1 := fun y => bls_set (bd ++ b :: br) i.toNat y
    have hs2 : ∀ y, (bd ++ b :: br).set i.toNat y = bd ++ y :: br := by
      intro y
      rw [show i.toNat = bd.length by omega, List.set_append_right _ _ (Nat.le_refl _)]
      simp
    have hw : IntKind.i64.wrap (i + 1) = i + 1 := wr (by omega)
    have hl2 : i.toNat + 1 ≤ bd.length + (br.length + 1) := by omega
    have hn := loopFre0 T hT hk S hS N I br cr (bd ++ [b || c]) (cd ++ [c]) (by simp [h1]) (by simpa using h2) (by simp at h3 ⊢; omega) (i + 1) (by simp; omega)
    cases b with
    | true =>
      simp [r38l0, b38l0, hk, hS, hlt, hge, hb1, hc1, hs1, hs2, hw, hl2]
      simpa [orL] using hn
    | false =>
      simp [r38l0, b38l0, hk, hS, hlt, hge, hb1, hc1, hs1, hs2, hw, hl2]
      simpa [orL] using hn
end Go.Am
end
section
set_option maxRecDepth 10000
set_option linter.unusedSimpArgs false
set_option linter.unusedVariables false
namespace Go.Am
open Go.Proofs
theorem loopFre1 (o x y : Int) (rest : List Pi) (ih : ∀ p ∈ rest, callI G 38 [enc p] [] = some (.agg (bls (fre p)), [])) :
    ∀ (done : List Pi) (acc : List Bool), acc.length = 30 → (done ++ rest).length ≤ 9223372036854775807 →
      loopI G [1, 2, 3, 13, 14, 15] [1, 2, 3] c38l1 ⟨[(1, .ref (0, 1) 1 0 0), (2, .ref (0, 2) 1 0 0), (3, .ref (0, 3) 1 0 0), (13, .sl false 4 (encs (done ++ rest))), (14, .i (done ++ rest).length), (15, .i done.length)], [(1, .box [.i o, .i x, .i y, .sl false 4 (encs (done ++ rest))]), (2, .box Z30), (3, .box (bls acc))], []⟩ =
        some (.exit 0, ⟨[(1, .ref (0, 1) 1 0 0), (2, .ref (0, 2) 1 0 0), (3, .ref (0, 3) 1 0 0), (13, .sl false 4 (encs (done ++ rest))), (14, .i (done ++ rest).length), (15, .i (done ++ rest).length), (16, .b false)], [(1, .box [.i o, .i x, .i y, .sl false 4 (encs (done ++ rest))]), (2, .box Z30), (3, .box (bls (freL rest acc)))], []⟩) := by
  induction rest with
  | nil =>
    intro done acc ha h
    rw [loopI_eq]
    simp [r38l1, b38l1, encs_len, freL]
  | cons p rest ih2 =>
    intro done acc ha h
    rw [loopI_eq]
    have hat := encs_at done p rest
    have hlt2 : (done.length : Int) < (done.length : Int) + ((rest.length : Int) + 1) := by omega
    have hw : IntKind.i64.wrap ((done.length : Int) + 1) = (done.length : Int) + 1 := wr (by simp at h; omega)
    have hc := ih p List.mem_cons_self
    have hl0 := fun I => loopFre0 [.i o, .i x, .i y, .sl false 4 (encs (done ++ p :: rest))] rfl (by intro g n; simp) (.sl false 4 (encs (done ++ p :: rest))) (by intro g n; simp) (done ++ p :: rest).length I acc (fre p) [] [] rfl (by rw [ha, fre_len]) (by simp [ha]) 0 rfl
    have hn := ih2 (fun q hq => ih q (List.mem_cons_of_mem _ hq)) (done ++ [p]) (orL acc (fre p)) (by rw [orL_len, ha]) (by simpa using h)
    obtain ⟨o', a', b', ps⟩ := p
    simp only [enc] at hc hat
    simp only [List.nil_append, List.length_append, List.length_cons, Int.natCast_add, show ((1 : Nat) : Int) = 1 from rfl] at hl0
    simp [r38l1, b38l1, encs_len, hat, hlt2, hw, hc, hl0]
    simpa [freL, Int.add_assoc] using hn
theorem loopFre2 (rest : List Int) (hr : ∀ u ∈ rest, 0 ≤ u ∧ u < 30) :
    ∀ (done : List Int) (acc : List Bool), acc.length = 30 → (done ++ rest).length ≤ 9223372036854775807 →
      loopI G [2, 3, 42, 43, 44] [2, 3, 42] c38l2 ⟨[(2, .ref (0, 2) 1 0 0), (3, .ref (0, 3) 1 0 0), (42, .own (0, 42) (done ++ rest).length), (43, .i (done ++ rest).length), (44, .i done.length)], [(2, .box Z30), (3, .box (bls acc)), (42, .row 1 (ints (done ++ rest)))], []⟩ =
        some (.exit 4, ⟨[(2, .ref (0, 2) 1 0 0), (3, .ref (0, 3) 1 0 0), (42, .own (0, 42) (done ++ rest).length), (43, .i (done ++ rest).length), (44, .i (done ++ rest).length), (45, .b false)], [(2, .box Z30), (3, .box (bls (usets rest acc))), (42, .row 1 (ints (done ++ rest)))], []⟩) := by
  induction rest with
  | nil =>
    intro done acc ha h
    rw [loopI_eq]
    simp [r38l2, b38l2, ints_len, usets]
  | cons u rest ih2 =>
    intro done acc ha h
    rw [loopI_eq]
    have hat := ints_at done u rest
    have hlt2 : (done.length : Int) < (done.length : Int) + ((rest.length : Int) + 1) := by omega
    have hw : IntKind.i64.wrap ((done.length : Int) + 1) = (done.length : Int) + 1 := wr (by simp at h; omega)
    obtain ⟨hu0, hu1⟩ := hr u List.mem_cons_self
    have hl2 : u.toNat + 1 ≤ 30 := by omega
    have hs1 := fun y => bls_set acc u.toNat y
    have hn := ih2 (fun q hq => hr q (List.mem_cons_of_mem _ hq)) (done ++ [u]) (acc.set u.toNat true) (by simp [ha]) (by simpa using h)
    simp [r38l2, b38l2, ints_len, hat, hlt2, hw, hu0, hu1, hl2, ha, hs1]
    simpa [usets, Int.add_assoc] using hn
/-- The names of a term are names. -/
def NmOK (o x y : Int) : Prop := (∀ u ∈ usesL o x y, 0 ≤ u ∧ u < 30) ∧ bnd o x y < 30
theorem nm_iff (k : Int) : nm k = true ↔ 0 ≤ k ∧ k < 30 := by
  simp only [nm, Bool.and_eq_true, decide_eq_true_eq]
  constructor <;> intro h <;> omega
theorem nmOK {o x y : Int} {k : Nat} (hk : kindOK o x y = some (true, k)) : NmOK o x y := by
  unfold kindOK at hk
  by_cases h0 : o = 0
  · subst h0; simp [NmOK, usesL, bnd]
  by_cases h3 : o = 3
  · subst h3; simp [NmOK, usesL, bnd]
  by_cases h4 : o = 4 ∨ o = 5
  · rcases h4 with h | h <;> subst h <;> simp [NmOK, usesL, bnd]
  by_cases h6 : o = 6
  · subst h6
    simp [nm_iff] at hk
    simp [NmOK, usesL, bnd]; omega
  by_cases h1 : o = 1 ∨ o = 2 ∨ o = 7
  · rw [if_neg h0, if_neg h3, if_neg h4, if_neg h6, if_pos h1] at hk
    simp [nm_iff] at hk
    rcases h1 with h | h | h <;> subst h <;> simp [NmOK, usesL, bnd] <;> omega
  · rw [if_neg h0, if_neg h3, if_neg h4, if_neg h6, if_neg h1] at hk
    cases hk
theorem bset_box (b : Int) (acc : List Bool) (h : 0 ≤ b) : (bls acc).set b.toNat (.b false) = bls (bset b acc) := by
  rw [bls_set]; simp [bset, h]
theorem putC_full : ∀ (vs pre old : List PV), old.length = vs.length → putC (pre ++ old) pre.length vs = pre ++ vs
  | [], pre, old, h => by
    have : old = [] := List.eq_nil_of_length_eq_zero (by simpa using h)
    simp [putC, this]
  | v :: vs, pre, old, h => by
    rcases old with _ | ⟨u, old⟩
    · simp at h
    have := putC_full vs (pre ++ [v]) old (by simpa using h)
    simp only [putC]
    rw [List.set_append_right _ _ (Nat.le_refl _)]
    simpa using this
theorem putC_all (vs old : List PV) (h : old.length = vs.length) : putC old 0 vs = vs := putC_full vs [] old h
theorem loopFre2n (acc : List Bool) :
      loopI G [2, 3, 42, 43, 44] [2, 3, 42] c38l2 ⟨[(2, .ref (0, 2) 1 0 0), (3, .ref (0, 3) 1 0 0), (42, .nils), (43, .i 0), (44, .i 0)], [(2, .box Z30), (3, .box (bls acc))], []⟩ =
        some (.exit 4, ⟨[(2, .ref (0, 2) 1 0 0), (3, .ref (0, 3) 1 0 0), (42, .nils), (43, .i 0), (44, .i 0), (45, .b false)], [(2, .box Z30), (3, .box (bls acc))], []⟩) := by
  rw [loopI_eq]
  simp [r38l2, b38l2]
theorem b47 (o x y : Int) (ps : List Pi) (hl : ps.length ≤ 9223372036854775807) (hn : NmOK o x y) (ih : ∀ p ∈ ps, callI G 38 [enc p] [] = some (.agg (bls (fre p)), [])) : callI G 38 [enc (.mk o x y ps)] [] = some (.agg (bls (fre (.mk o x y ps))), []) := by
  have hl1 := loopFre1 o x y ps ih [] (List.replicate 30 false) (by simp) (by simpa using hl)
  rw [z30] at hl1
  simp only [List.nil_append, List.length_nil, show ((0 : Nat) : Int) = 0 from rfl] at hl1
  have hb := eqBindsI o x y ps
  have hu := eqUsesI o x y ps
  have hlen2 : (freL ps (List.replicate 30 false)).length = 30 := by simp [freL_len]
  have htk : ∀ l : List Bool, l.length = 30 → (bls l).take 30 = bls l := fun l h => List.take_of_length_le (by simp [h])
  have hput : ∀ l : List Bool, l.length = 30 → putC Z30 0 (bls l) = bls l := fun l h => putC_all _ _ (by simp [h])
  simp only [enc] at hb hu
  have hfre : fre (.mk o x y ps) = usets (usesL o x y) (bset (bnd o x y) (freL ps (List.replicate 30 false))) := rfl
  have hB30 := hn.2
  have hB1 := bset_box (bnd o x y) (freL ps (List.replicate 30 false))
  have hB2 : ¬ 0 ≤ bnd o x y → bset (bnd o x y) (freL ps (List.replicate 30 false)) = freL ps (List.replicate 30 false) := fun h => by simp [bset, h]
  have hBl : ∀ B, (bset B (freL ps (List.replicate 30 false))).length = 30 := by simp [bset_len, freL_len]
  have hl2 := loopFre2 (usesL o x y) hn.1 [] (bset (bnd o x y) (freL ps (List.replicate 30 false))) (hBl _) (by unfold usesL; split <;> (try split) <;> simp)
  simp only [List.nil_append, List.length_nil, show ((0 : Nat) : Int) = 0 from rfl] at hl2
  have hlen3 := fre_len (.mk o x y ps)
  rw [hfre] at hlen3 ⊢
  have hBl := hBl (bnd o x y)
  generalize freL ps (List.replicate 30 false) = FL at *
  generalize hBB : bnd o x y = B at *
  rw [callI_eq]
  by_cases hB : 0 ≤ B
  · have hBn : B.toNat + 1 ≤ 30 := by omega
    have hB1 := hB1 hB
    generalize hBS : bset B FL = BS at *
    by_cases h17 : o = 1 ∨ o = 7
    · simp only [usesL, usesV, h17, if_true, ints, List.length_cons, List.length_nil, Nat.zero_add, Nat.reduceAdd, show ((2 : Nat) : Int) = 2 from rfl] at hl2 hu hlen3 ⊢
      simp [body1_eq _ _ (gp 38) g38, c38, a38, enc, encs_len, hl1, hb, hB, hB30, hBn, hB1, hlen2, hu, hl2, hBl, htk, hput, hlen3]
    · by_cases h2 : o = 2
      · have hU : usesL o x y = [x] := by simp [usesL, h2]
        have hV : usesV o x y = .sl true 1 [.i x] := by simp [usesV, h2]
        simp only [hU, hV, ints, List.length_cons, List.length_nil, Nat.zero_add, show ((1 : Nat) : Int) = 1 from rfl] at hl2 hu hlen3 ⊢
        simp [body1_eq _ _ (gp 38) g38, c38, a38, enc, encs_len, hl1, hb, hB, hB30, hBn, hB1, hlen2, hu, hl2, hBl, htk, hput, hlen3]
      · have hl3 := loopFre2n BS
        simp only [usesL, usesV, h17, h2, if_false] at hu hlen3 ⊢
        simp [body1_eq _ _ (gp 38) g38, c38, a38, enc, encs_len, hl1, hb, hB, hB30, hBn, hB1, hlen2, hu, hl3, hBl, htk, hput, hlen3, usets]
  · have e2 := hB2 hB
    rw [e2] at hl2 hlen3 ⊢
    by_cases h17 : o = 1 ∨ o = 7
    · simp only [usesL, usesV, h17, if_true, ints, List.length_cons, List.length_nil, Nat.zero_add, Nat.reduceAdd, show ((2 : Nat) : Int) = 2 from rfl] at hl2 hu hlen3 ⊢
      simp [body1_eq _ _ (gp 38) g38, c38, a38, enc, encs_len, hl1, hb, hB, hlen2, hu, hl2, htk, hput, hlen3]
    · by_cases h2 : o = 2
      · have hU : usesL o x y = [x] := by simp [usesL, h2]
        have hV : usesV o x y = .sl true 1 [.i x] := by simp [usesV, h2]
        simp only [hU, hV, ints, List.length_cons, List.length_nil, Nat.zero_add, show ((1 : Nat) : Int) = 1 from rfl] at hl2 hu hlen3 ⊢
        simp [body1_eq _ _ (gp 38) g38, c38, a38, enc, encs_len, hl1, hb, hB, hlen2, hu, hl2, htk, hput, hlen3]
      · have hl3 := loopFre2n FL
        simp only [usesL, usesV, h17, h2, if_false] at hu hlen3 ⊢
        simp [body1_eq _ _ (gp 38) g38, c38, a38, enc, encs_len, hl1, hb, hB, hlen2, hu, hl3, htk, hput, hlen3, usets]
mutual
theorem eq47 : ∀ p : Pi, Fit p → shape p = true → callI G 38 [enc p] [] = some (.agg (bls (fre p)), [])
  | .mk o x y ps, hf, hs => by
    simp only [shape] at hs
    rcases hk : kindOK o x y with _ | ⟨ok, k⟩
    · simp [hk] at hs
    simp only [hk, Bool.and_eq_true, decide_eq_true_eq] at hs
    obtain ⟨h1, h2, h3⟩ := hs
    subst h1
    exact b47 o x y ps hf.1 (nmOK hk) (eq47s ps hf.2 h3)
theorem eq47s : ∀ ps : List Pi, Fits ps → shapes ps = true → ∀ p ∈ ps, callI G 38 [enc p] [] = some (.agg (bls (fre p)), [])
  | [], _, _, p, h => by cases h
  | q :: ps, hf, hs, p, h => by
    simp only [shapes, Bool.and_eq_true] at hs
    rcases List.mem_cons.1 h with h | h
    · rw [h]; exact eq47 q hf.1 hs.1
    · exact eq47s ps hf.2 hs.2 p h
end
end Go.Am
end
section
set_option maxRecDepth 10000
set_option linter.unusedSimpArgs false
set_option linter.unusedVariables false
namespace Go.Am
open Go.Proofs
mutual
def fr : Pi → Int → Bool
  | .mk o x y ps, n => usB (usesL o x y) n || (decide (¬ bnd o x y = n) && frs ps n)
def frs : List Pi → Int → Bool
  | [], _ => false
  | p :: ps, n => fr p n || frs ps n
end
theorem loop46 (o x y n : Int) (hb : ¬ bnd o x y = n) (rest : List Pi) (ih : ∀ p ∈ rest, callI G 40 [enc p, .i n] [] = some (.b (fr p n), [])) :
    ∀ (done : List Pi), (done ++ rest).length ≤ 9223372036854775807 →
      ∃ r, loopI G [1, 2, 5] [2] c40l0 ⟨[(1, .i n), (2, .ref (0, 2) 1 0 0), (5, .i done.length)], [(2, .box [.i o, .i x, .i y, .sl false 4 (encs (done ++ rest))])], []⟩ = some r ∧
        ((frs rest n = true ∧ r = (.ret, ⟨[(4, .b true)], [], []⟩)) ∨ (frs rest n = false ∧ r = (.exit 0, ⟨[(1, .i n), (2, .ref (0, 2) 1 0 0), (5, .i (done ++ rest).length), (19, .b false)], [(2, .box [.i o, .i x, .i y, .sl false 4 (encs (done ++ rest))])], []⟩))) := by
  induction rest with
  | nil =>
    intro done h
    rw [loopI_eq]
    simp [r40l0, b40l0, encs_len, frs]
  | cons p rest ih2 =>
    intro done h
    rw [loopI_eq]
    have hat := encs_at done p rest
    have hlt2 : (done.length : Int) < (done.length : Int) + ((rest.length : Int) + 1) := by omega
    have hw : IntKind.i64.wrap ((done.length : Int) + 1) = (done.length : Int) + 1 := wr (by simp at h; omega)
    have hc := ih p List.mem_cons_self
    have hbb := eqBindsS o x y (done ++ p :: rest)
    simp only [enc] at hbb
    by_cases hs : fr p n = true
    · obtain ⟨o', a', b', ps⟩ := p
      simp only [enc] at hat hc
      simp [r40l0, b40l0, encs_len, hat, hlt2, hc, hw, hs, hbb, hb, frs]
    · have hs2 : fr p n = false := by simpa using hs
      have hn := ih2 (fun y hy => ih y (List.mem_cons_of_mem _ hy)) (done ++ [p]) (by simpa using h)
      obtain ⟨o', a', b', ps⟩ := p
      simp only [enc] at hc hat
      simp [r40l0, b40l0, encs_len, hat, hlt2, hc, hw, hs2, hbb, hb]
      simpa [hs2, frs, Int.add_assoc] using hn
theorem b46 (o x y n : Int) (ps : List Pi) (hl : ps.length ≤ 9223372036854775807) (ih : ∀ p ∈ ps, callI G 40 [enc p, .i n] [] = some (.b (fr p n), [])) : callI G 40 [enc (.mk o x y ps), .i n] [] = some (.b (fr (.mk o x y ps) n), []) := by
  have hu := eqUsesS o x y ps n
  have hbb := eqBindsS o x y ps
  simp only [enc] at hu hbb
  rw [callI_eq]
  by_cases h1 : usB (usesL o x y) n = true
  · simp [body1_eq _ _ (gp 40) g40, c40, a40, enc, hu, h1, fr]
  · have h1 : usB (usesL o x y) n = false := by simpa using h1
    by_cases hb : bnd o x y = n
    · have hx : ∃ t, loopI G [1, 2, 5] [2] c40l0 ⟨[(1, .i n), (2, .ref (0, 2) 1 0 0), (5, .i 0)], [(2, .box [.i o, .i x, .i y, .sl false 4 (encs ps)])], []⟩ = some (.exit 0, ⟨[(1, .i n), (2, .ref (0, 2) 1 0 0), (5, .i 0), (19, .b false)], [(2, .box [.i o, .i x, .i y, .sl false 4 (encs ps)])], []⟩) ∧ t = (0 : Nat) := by
        refine ⟨0, ?_, rfl⟩
        rw [loopI_eq]
        by_cases hz : ps.length = 0
        · simp [r40l0, b40l0, encs_len, hbb, hb, hz]
        · have : 0 < ps.length := by omega
          simp [r40l0, b40l0, encs_len, hbb, hb, this]
      obtain ⟨_, hx, _⟩ := hx
      simp [body1_eq _ _ (gp 40) g40, c40, a40, enc, hu, h1, fr, hx, hb]
    · obtain ⟨r, hlp, hr⟩ := loop46 o x y n hb ps ih [] (by simpa using hl)
      simp only [List.nil_append, List.length_nil, show ((0 : Nat) : Int) = 0 from rfl] at hlp hr
      rcases hr with ⟨h2, hr⟩ | ⟨h2, hr⟩ <;> simp [body1_eq _ _ (gp 40) g40, c40, a40, enc, hu, h1, fr, hlp, hb, hr, h2]
mutual
theorem eq46 : ∀ p : Pi, Fit p → ∀ n, callI G 40 [enc p, .i n] [] = some (.b (fr p n), [])
  | .mk o x y ps, hf, n => b46 o x y n ps hf.1 (fun p hp => eq46s ps hf.2 p hp n)
theorem eq46s : ∀ ps : List Pi, Fits ps → ∀ p ∈ ps, ∀ n, callI G 40 [enc p, .i n] [] = some (.b (fr p n), [])
  | [], _, p, h, _ => by cases h
  | q :: ps, hf, p, h, n => by
    rcases List.mem_cons.1 h with h | h
    · rw [h]; exact eq46 q hf.1 n
    · exact eq46s ps hf.2 p h n
end
/-! the same names are free -/
def at30 (bs : List Bool) (k : Int) : Bool := bs.getD k.toNat false
theorem orL_getD : ∀ (a b : List Bool) (k : Nat), a.length = b.length → (orL a b).getD k false = (a.getD k false || b.getD k false)
  | [], [], _, _ => by simp [orL]
  | a :: r, b :: bs, 0, _ => by simp [orL]
  | a :: r, b :: bs, k + 1, h => by simpa [orL] using orL_getD r bs k (by simpa using h)
  | [], _ :: _, _, h => by simp at h
  | _ :: _, [], _, h => by simp at h
theorem set_getD (l : List Bool) (i k : Nat) (v : Bool) (h : i < l.length) : (l.set i v).getD k false = if i = k then v else l.getD k false := by
  simp only [List.getD_eq_getElem?_getD, List.getElem?_set]
  split
  · simp [h]
  · rfl
theorem usets_getD : ∀ (us : List Int) (bs : List Bool) (k : Int), bs.length = 30 → 0 ≤ k → (∀ u ∈ us, 0 ≤ u ∧ u < 30) → at30 (usets us bs) k = (usB us k || at30 bs k)
  | [], bs, k, _, _, _ => by simp [usets, usB]
  | u :: us, bs, k, h, hk, hu => by
    have h1 := hu u List.mem_cons_self
    simp only [usets]
    rw [usets_getD us _ k (by simp [h]) hk (fun v hv => hu v (List.mem_cons_of_mem _ hv))]
    simp only [at30, usB, List.any_cons]
    rw [set_getD _ _ _ _ (by omega)]
    by_cases e : u = k
    · simp [e]
    · have : ¬ u.toNat = k.toNat := by omega
      simp [e, this]
theorem bset_getD (b : Int) (bs : List Bool) (k : Int) (h : bs.length = 30) (hk : 0 ≤ k) (hb : b < 30) : at30 (bset b bs) k = (decide (¬ b = k) && at30 bs k) := by
  unfold bset at30
  by_cases h0 : 0 ≤ b
  · rw [if_pos h0, set_getD _ _ _ _ (by omega)]
    by_cases e : b = k
    · simp [e]
    · have : ¬ b.toNat = k.toNat := by omega
      simp [e, this]
  · have : ¬ b = k := by omega
    simp [h0, this]
theorem rep_getD (n k : Nat) : (List.replicate n false).getD k false = false := by
  simp only [List.getD_eq_getElem?_getD, List.getElem?_replicate]
  split <;> rfl
mutual
theorem fre_fr : ∀ (p : Pi), shape p = true → ∀ k : Int, 0 ≤ k → at30 (fre p) k = fr p k
  | .mk o x y ps, hs, k, hk => by
    simp only [shape] at hs
    rcases hko : kindOK o x y with _ | ⟨ok, m⟩
    · simp [hko] at hs
    simp only [hko, Bool.and_eq_true, decide_eq_true_eq] at hs
    obtain ⟨h1, h2, h3⟩ := hs
    subst h1
    have hn := nmOK hko
    have hL := freL_fr ps h3 (List.replicate 30 false) k hk (by simp)
    have e0 : at30 (List.replicate 30 false) k = false := rep_getD 30 k.toNat
    simp only [fre, fr]
    rw [usets_getD _ _ k (by simp [bset_len, freL_len]) hk hn.1, bset_getD _ _ k (by simp [freL_len]) hk hn.2, hL, e0, Bool.false_or]
theorem freL_fr : ∀ (ps : List Pi), shapes ps = true → ∀ (acc : List Bool) (k : Int), 0 ≤ k → acc.length = 30 → at30 (freL ps acc) k = (at30 acc k || frs ps k)
  | [], _, acc, k, _, _ => by simp [freL, frs]
  | p :: ps, hs, acc, k, hk, ha => by
    simp only [shapes, Bool.and_eq_true] at hs
    have h1 := fre_fr p hs.1 k hk
    simp only [freL, frs]
    rw [freL_fr ps hs.2 _ k hk (by rw [orL_len, ha])]
    have : at30 (orL acc (fre p)) k = (at30 acc k || at30 (fre p) k) := orL_getD _ _ _ (by rw [ha, fre_len])
    rw [this, h1, Bool.or_assoc]
end
end Go.Am
end
section
set_option maxRecDepth 10000
set_option linter.unusedSimpArgs false
set_option linter.unusedVariables false
namespace Go.Am
open Go.Proofs
abbrev encPool (ss : List Int) (ms : List Pi) : PV := .agg [.sl false 1 (ints ss), .sl false 4 (encs ms)]
abbrev encPoolU (ss : List Int) (ms : List Pi) : PV := .agg [.sl true 1 (ints ss), .sl true 4 (encUs ms)]
def szI (n l : Int) : Int := if l - n < 0 then -1 else l - n
def szPool (ss : List Int) (ms : List Pi) (l : Int) : Int :=
  if szI ss.length l < 0 then -1 else if szI ss.length l - ms.length < 0 then -1 else if szL ms (szI ss.length l - ms.length) < 0 then -1 else szL ms (szI ss.length l - ms.length)
theorem szPool_small (ss : List Int) (ms : List Pi) (l : Int) (h0 : 0 ≤ l) (h1 : l ≤ 1048576) (h : ¬ szPool ss ms l < 0) : ss.length ≤ 4294967296 ∧ ms.length ≤ 4294967296 ∧ Smalls ms := by
  have hs : szI ss.length l ≤ 1048576 ∧ (¬ szI ss.length l < 0 → ss.length ≤ 4294967296) := by
    unfold szI
    split <;> constructor <;> omega
  unfold szPool at h
  generalize szI ss.length l = s at *
  by_cases h2 : s < 0
  · simp [h2] at h
  · rw [if_neg h2] at h
    by_cases h3 : s - ms.length < 0
    · simp [h3] at h
    · rw [if_neg h3] at h
      by_cases h4 : szL ms (s - ms.length) < 0
      · simp [h4] at h
      · exact ⟨hs.2 h2, by omega, szL_small ms (s - ms.length) (by omega) (by omega) (by omega)⟩
end Go.Am
end
section
set_option maxRecDepth 10000
set_option linter.unusedSimpArgs false
set_option linter.unusedVariables false
namespace Go.Am
open Go.Proofs
/-! slices.ContainsFunc with a closure that holds references to outer frames -/
theorem loop73c (cf : Nat) (caps : List PV) (o : Stack) (F : Pi → Bool) (hnr : noRefs caps = false) (ha : atLvls o.length caps = false) (hk : ∀ g, knowns g o.length caps = true) (rest : List Pi) (ih : ∀ x ∈ rest, callI G cf (enc x :: caps) (o ++ [[]]) = some (.b (F x), o ++ [[]])) :
    ∀ (done : List Pi), (done ++ rest).length ≤ 9223372036854775807 →
      ∃ r, loopI G [0, 1, 7, 8] [] c102l0 ⟨[(0, .sl false 4 (encs (done ++ rest))), (1, .clo cf caps), (7, .i (done ++ rest).length), (8, .i done.length)], [], o⟩ = some r ∧
        ((rest.any F = true ∧ ∃ i : Int, 0 ≤ i ∧ r = (.ret, ⟨[(4, .i i)], [], o⟩)) ∨ (rest.any F = false ∧ r = (.exit 0, ⟨[(0, .sl false 4 (encs (done ++ rest))), (1, .clo cf caps), (7, .i (done ++ rest).length), (8, .i (done ++ rest).length), (9, .b false)], [], o⟩))) := by
  induction rest with
  | nil =>
    intro done h
    rw [loopI_eq]
    simp [r102l0, b102l0, encs_len, hk]
  | cons x rest ih2 =>
    intro done h
    rw [loopI_eq]
    have hat := encs_at done x rest
    have hlt2 : (done.length : Int) < (done.length : Int) + ((rest.length : Int) + 1) := by omega
    have hw : IntKind.i64.wrap ((done.length : Int) + 1) = (done.length : Int) + 1 := wr (by simp at h; omega)
    have hc := ih x List.mem_cons_self
    by_cases hs : F x = true
    · obtain ⟨o', a', b', ps⟩ := x
      simp only [enc] at hat hc
      simp [r102l0, b102l0, encs_len, hat, hlt2, hc, hw, hs, hnr, ha, hk]
    · have hs2 : F x = false := by simpa using hs
      have hn := ih2 (fun y hy => ih y (List.mem_cons_of_mem _ hy)) (done ++ [x]) (by simpa using h)
      obtain ⟨o', a', b', ps⟩ := x
      simp only [enc] at hc hat
      simp [r102l0, b102l0, encs_len, hat, hlt2, hc, hw, hs2, hnr, ha, hk]
      simpa [hs2, Int.add_assoc] using hn
theorem eq53c (cf : Nat) (caps : List PV) (o : Stack) (F : Pi → Bool) (hnr : noRefs caps = false) (ha : atLvls o.length caps = false) (hk : ∀ g, knowns g o.length caps = true) (ha2 : atLvls (o.length + 1) caps = false) (hk2 : ∀ g, knowns g (o.length + 1) caps = true) (ps : List Pi) (hl : ps.length ≤ 9223372036854775807)
    (ih : ∀ x ∈ ps, callI G cf (enc x :: caps) (o ++ [[]] ++ [[]]) = some (.b (F x), o ++ [[]] ++ [[]])) : callI G 86 [.sl false 4 (encs ps), .clo cf caps] o = some (.b (ps.any F), o) := by
  have h73 : ∃ i : Int, (decide (0 ≤ i)) = ps.any F ∧ callI G 102 [.sl false 4 (encs ps), .clo cf caps] (o ++ [[]]) = some (.i i, o ++ [[]]) := by
    obtain ⟨r, hl, hr⟩ := loop73c cf caps (o ++ [[]]) F hnr (by simpa using ha2) (by simpa using hk2) ps ih [] (by simpa using hl)
    simp only [List.nil_append, List.length_nil, show ((0 : Nat) : Int) = 0 from rfl] at hl hr
    rcases hr with ⟨h1, i, hi, hr⟩ | ⟨h1, hr⟩
    · refine ⟨i, by simp [h1, hi], ?_⟩
      rw [callI_eq]
      simp [body1_eq _ _ (gp 102) g102, c102, a102, encs_len, hl, hr, hk2]
    · refine ⟨-1, by simp [h1], ?_⟩
      rw [callI_eq]
      simp [body1_eq _ _ (gp 102) g102, c102, a102, encs_len, hl, hr, hk2]
  obtain ⟨i, hi, hc⟩ := h73
  rw [callI_eq]
  simp [body1_eq _ _ (gp 86) g86, c86, a86, hc, hi, hnr, ha, hk]
theorem fits_mem : ∀ {ps : List Pi}, Fits ps → ∀ p ∈ ps, Fit p
  | q :: ps, h, p, hp => by
    rcases List.mem_cons.1 hp with e | e
    · rw [e]; exact h.1
    · exact fits_mem h.2 p e
/-! members -/
def ok (p : Pi) : Bool := decide (pn p 14 ≤ 14) && shape p
def memB : Pi → Bool
  | .mk o x y _ => !decide (o = 0) && !decide (o = 5) && !decide (o = 6) && !(decide (o = 7) && decide (x = y))
theorem eqOkS (p : Pi) (hf : Fit p) : callI G 39 [enc p] [] = some (.b (ok p), []) := by rw [eq10 p hf, plain_ok]; rfl
theorem eqOkI (p : Pi) (hf : Fit p) : callI G 14 [enc p] [] = some (.b (ok p), []) := eq12 p hf
def hiL : List Bool → Int → Int → Bool
  | [], _, _ => false
  | b :: bs, k, m => (b && decide (6 + m ≤ k)) || hiL bs (k + 1) m
def mok (m : Int) (p : Pi) : Bool := ok p && memB p && !hiL (fre p) 0 m
end Go.Am
end
section
set_option maxRecDepth 10000
set_option linter.unusedSimpArgs false
set_option linter.unusedVariables false
namespace Go.Am
open Go.Proofs
def srt (s : Int) : Bool := decide (0 ≤ s) && decide (s ≤ 2)
def frF (p : Pi) : Nat → Int → Bool
  | 0, _ => false
  | k + 1, n => fr p n || frF p k (n + 1)
/-! impl.PoolOk -/
def poolI (ss : List Int) (ms : List Pi) : Bool := decide (ss.length ≤ 4) && (ss.all srt && !(ms.any fun p => !mok ss.length p))
/-! spec.PoolOk -/
def mokS (m : Int) (p : Pi) : Bool := ok p && memB p && !frF p (24 - m).toNat (6 + m)
def poolS (ss : List Int) (ms : List Pi) : Bool := decide (ss.length ≤ 4) && (ss.all srt && ms.all (mokS ss.length))
/-! the plain law -/
theorem hiL_frF (p : Pi) (m : Int) : ∀ (cr : List Bool) (k : Int), 0 ≤ k → 6 + m ≤ k → (∀ j : Nat, j < cr.length → cr.getD j false = fr p (k + j)) → hiL cr k m = frF p cr.length k
  | [], k, _, _, _ => rfl
  | b :: bs, k, hk, hm, h => by
    have h0 := h 0 (by simp)
    simp only [List.getD_cons_zero, show ((0 : Nat) : Int) = 0 from rfl, Int.add_zero] at h0
    have ih := hiL_frF p m bs (k + 1) (by omega) (by omega) (fun j hj => by
      have := h (j + 1) (by simp; omega)
      simp only [List.getD_cons_succ, Int.natCast_add, show ((1 : Nat) : Int) = 1 from rfl] at this
      rw [this]; congr 1; omega)
    simp only [hiL, List.length_cons, frF, ih, h0]
    simp [hm]
theorem hiL_low (p : Pi) (m : Int) (hm : 0 ≤ m ∧ m ≤ 4) : ∀ (cr : List Bool) (k : Int), 0 ≤ k → k ≤ 6 + m → k + cr.length = 30 → (∀ j : Nat, j < cr.length → cr.getD j false = fr p (k + j)) → hiL cr k m = frF p (24 - m).toNat (6 + m)
  | [], k, hk, h1, h2, h => by simp at h2; omega
  | b :: bs, k, hk, h1, h2, h => by
    by_cases e : k = 6 + m
    · subst e
      rw [hiL_frF p m (b :: bs) (6 + m) hk (Int.le_refl _) h]
      congr 1
      omega
    · have e2 : ¬ 6 + m ≤ k := by omega
      have ih := hiL_low p m hm bs (k + 1) (by omega) (by omega) (by simp at h2; omega) (fun j hj => by
        have := h (j + 1) (by simp; omega)
        simp only [List.getD_cons_succ, Int.natCast_add, show ((1 : Nat) : Int) = 1 from rfl] at this
        rw [this]; congr 1; omega)
      simp [hiL, e2, ih]
theorem mok_same (m : Int) (hm : 0 ≤ m ∧ m ≤ 4) (p : Pi) : mokS m p = mok m p := by
  unfold mok mokS
  by_cases h : ok p = true
  · have hs : shape p = true := by unfold ok at h; simp at h; exact h.2
    rw [hiL_low p m hm (fre p) 0 (by omega) (by omega) (by rw [fre_len]; rfl) (fun j hj => by
      have := fre_fr p hs j (by omega)
      simpa [at30] using this)]
  · simp [h]
theorem any_not_mok (m : Int) (hm : 0 ≤ m ∧ m ≤ 4) : ∀ ms : List Pi, ms.all (mokS m) = !(ms.any fun p => !mok m p)
  | [] => rfl
  | p :: ms => by simp [any_not_mok m hm ms, mok_same m hm p]
theorem pool_same (ss : List Int) (ms : List Pi) : poolS ss ms = poolI ss ms := by
  unfold poolS poolI
  by_cases h : ss.length ≤ 4
  · rw [any_not_mok ss.length (by omega) ms]
  · simp [h]
end Go.Am
end
section
set_option maxRecDepth 10000
set_option linter.unusedSimpArgs false
set_option linter.unusedVariables false
namespace Go.Am
open Go.Proofs
/-! #### marked terms -/
/-- Owned or frozen, the empty lists nil or not. -/
def encP (nl u : Bool) (xs : List PV) : PV := if (nl && xs.isEmpty) = true then .nils else .sl u 4 xs
mutual
def encX (nl u : Bool) : Pi → PV
  | .mk o x y ps => .agg [.i o, .i x, .i y, encP nl u (encXs nl u ps)]
def encXs (nl u : Bool) : List Pi → List PV
  | [] => []
  | p :: ps => encX nl u p :: encXs nl u ps
end
theorem encXs_len (nl u : Bool) : ∀ ps : List Pi, (encXs nl u ps).length = ps.length
  | [] => rfl
  | _ :: ps => by simp [encXs, encXs_len nl u ps]
theorem encP_nil (u : Bool) : encP true u [] = .nils := rfl
theorem encP_sl (nl u : Bool) (xs : List PV) (h : nl = false ∨ xs ≠ []) : encP nl u xs = .sl u 4 xs := by
  unfold encP
  rcases h with h | h
  · simp [h]
  · cases xs with
    | nil => exact absurd rfl h
    | cons _ _ => simp
theorem encXs_nil (nl u : Bool) {ps : List Pi} (h : encXs nl u ps = []) : ps = [] := by
  cases ps with
  | nil => rfl
  | cons _ _ => simp [encXs] at h
mutual
theorem encU_X : ∀ p : Pi, encU p = encX false true p
  | .mk o x y ps => by simp [encU, encX, encUs_X ps, encP]
theorem encUs_X : ∀ ps : List Pi, encUs ps = encXs false true ps
  | [] => rfl
  | p :: ps => by simp [encUs, encXs, encU_X p, encUs_X ps]
end
mutual
theorem fal_encX (nl : Bool) : ∀ p : Pi, fal (encX nl true p) = encX nl false p
  | .mk o x y ps => by
    have h := fals_encXs nl ps
    simp only [encX, fal, fals, encP]
    cases hps : encXs nl true ps with
    | nil =>
      have := encXs_nil nl true hps
      subst this
      cases nl <;> simp [encXs, fal, fals]
    | cons a l =>
      rw [hps] at h
      rw [← h]
      simp [fal, fals]
theorem fals_encXs (nl : Bool) : ∀ ps : List Pi, fals (encXs nl true ps) = encXs nl false ps
  | [] => rfl
  | p :: ps => by simp [encXs, fals, fal_encX nl p, fals_encXs nl ps]
end
theorem encXs_cons (nl u : Bool) (p : Pi) (ps : List Pi) : encXs nl u (p :: ps) = encX nl u p :: encXs nl u ps := rfl
mutual
/-- A term marked: every field bears the next number. -/
def mk1 : Int → Pi → Pi
  | k, .mk _ _ _ qs => .mk k (k + 1) (k + 2) (mkP (k + 3) qs)
def mkP : Int → List Pi → List Pi
  | _, [] => []
  | k, p :: ps => mk1 k p :: mkP (k + 3 * cnt p) ps
end
theorem mkP_len : ∀ (k : Int) (ps : List Pi), (mkP k ps).length = ps.length
  | _, [] => rfl
  | k, p :: ps => by simp [mkP, mkP_len _ ps]
theorem at_Dm (D : List PV) (x : PV) (E : List PV) (n : Nat) (h : n = D.length) : nth (D ++ x :: E) n = some x := by
  subst h
  unfold nth
  rw [List.getElem?_append_right (Nat.le_refl _)]
  simp
theorem set_D (D : List PV) (x y : PV) (E : List PV) (n : Nat) (h : n = D.length) : (D ++ x :: E).set n y = D ++ y :: E := by
  subst h
  rw [List.set_append_right _ _ (Nat.le_refl _)]
  simp
end Go.Am
end
section
set_option maxRecDepth 10000
set_option linter.unusedSimpArgs false
set_option linter.unusedVariables false
namespace Go.Am
open Go.Proofs
theorem len_cnts : ∀ ps : List Pi, (ps.length : Int) ≤ cnts ps
  | [] => by simp [cnts]
  | p :: ps => by
    have := len_cnts ps
    have := cnt_pos p
    simp only [cnts, List.length_cons, Int.natCast_add, show ((1 : Nat) : Int) = 1 from rfl]
    omega
/-! #### marked numbers -/
def marks : Int → Nat → List Int
  | _, 0 => []
  | k, n + 1 => k :: marks (k + 1) n
theorem marks_len : ∀ (k : Int) (n : Nat), (marks k n).length = n
  | _, 0 => rfl
  | k, n + 1 => by simp [marks, marks_len _ n]
end Go.Am
end
section
set_option maxRecDepth 10000
set_option linter.unusedSimpArgs false
set_option linter.unusedVariables false
namespace Go.Am
open Go.Proofs
end Go.Am
end
section
set_option maxRecDepth 10000
set_option linter.unusedSimpArgs false
set_option linter.unusedVariables false
namespace Go.Am
open Go.Proofs
theorem ok_shape' {p : Pi} (h : ok p = true) : shape p = true := by unfold ok at h; simp at h; exact h.2
/-! a list that grows by appending: nil, or a row of the frame's own -/
def rv (d : Nat) : List Int → PV
  | [] => .nils
  | x :: xs => .own (0, d) (x :: xs).length
def ro (d : Nat) : List Int → Objs
  | [] => []
  | x :: xs => [(d, .row 1 (ints (x :: xs)))]
def fv : List Int → PV
  | [] => .nils
  | x :: xs => .sl true 1 (ints (x :: xs))
def fl (p : Pi) : Nat → Int → List Int
  | 0, _ => []
  | k + 1, n => if fr p n = true then n :: fl p k (n + 1) else fl p k (n + 1)
theorem fl_len (p : Pi) : ∀ k n, (fl p k n).length ≤ k
  | 0, _ => by simp [fl]
  | k + 1, n => by
    have := fl_len p k (n + 1)
    simp only [fl]
    split
    · simp; omega
    · omega
theorem loop18 (p : Pi) (hf : Fit p) (hok : ok p = true) : ∀ (k : Nat) (n : Int) (acc : List Int), 0 ≤ n → n + k = 30 → acc.length + k ≤ 30 →
    loopI G [1, 3, 4] [1, 5, 20] c11l0 ⟨[(1, .ref (0, 1) 1 0 0), (3, rv 20 acc), (4, .i n)], (1, .box (enc p).cells) :: ro 20 acc, []⟩ =
      some (.exit 0, ⟨[(1, .ref (0, 1) 1 0 0), (3, rv 20 (acc ++ fl p k n)), (4, .i 30), (11, .b false)], (1, .box (enc p).cells) :: ro 20 (acc ++ fl p k n), []⟩)
  | 0, n, acc, h0, h1, h2 => by
    have e : n = 30 := by omega
    subst e
    rw [loopI_eq]
    obtain ⟨o, x, y, ps⟩ := p
    cases acc <;> simp [r11l0, b11l0, enc, rv, ro, fl]
  | k + 1, n, acc, h0, h1, h2 => by
    have hlt : n < 30 := by omega
    have hw : IntKind.i64.wrap (n + 1) = n + 1 := wr (by omega)
    have h46 := eq46 p hf n
    have h10 := eqOkS p hf
    rw [hok] at h10
    by_cases hfr : fr p n = true
    · have hn := loop18 p hf hok k (n + 1) (acc ++ [n]) (by omega) (by omega) (by simp; omega)
      rw [loopI_eq]
      rw [hfr] at h46
      obtain ⟨o, x, y, ps⟩ := p
      simp only [enc, PV.cells] at h46 h10 hn
      cases acc with
      | nil =>
        simp [r11l0, b11l0, enc, rv, ro, hlt, h10, h46, hw]
        simpa [rv, ro, fl, hfr, ints] using hn
      | cons a acc =>
        have hb : acc.length + 1 + 1 ≤ 4294967296 := by simp at h2; omega
        simp [r11l0, b11l0, enc, rv, ro, hlt, h10, h46, hw, ints_len, hb]
        simpa [rv, ro, fl, hfr, ints, ints_app] using hn
    · have hfr : fr p n = false := by simpa using hfr
      have hn := loop18 p hf hok k (n + 1) acc (by omega) (by omega) (by omega)
      rw [loopI_eq]
      rw [hfr] at h46
      obtain ⟨o, x, y, ps⟩ := p
      simp only [enc, PV.cells] at h46 h10 hn
      cases acc with
      | nil =>
        simp [r11l0, b11l0, enc, rv, ro, hlt, h10, h46, hw]
        simpa [rv, ro, fl, hfr] using hn
      | cons a acc =>
        simp [r11l0, b11l0, enc, rv, ro, hlt, h10, h46, hw]
        simpa [rv, ro, fl, hfr] using hn
def freeL (p : Pi) : List Int := if ok p = true then fl p 30 0 else []
theorem eqFreeS (p : Pi) (hf : Fit p) : callI G 11 [enc p] [] = some (fv (freeL p), []) := by
  by_cases hok : ok p = true
  · have hlp := loop18 p hf hok 30 0 [] (by omega) (by omega) (by simp)
    have hfl : freeL p = fl p 30 0 := by simp [freeL, hok]
    rw [hfl]
    rw [callI_eq]
    obtain ⟨o, x, y, ps⟩ := p
    simp only [enc, PV.cells, rv, ro, List.nil_append] at hlp
    cases hL : fl (.mk o x y ps) 30 0 with
    | nil =>
      simp only [hL, rv, ro] at hlp
      simp [body1_eq _ _ (gp 11) g11, c11, a11, enc, hlp, fv]
    | cons a acc =>
      simp only [hL, rv, ro] at hlp
      simp [body1_eq _ _ (gp 11) g11, c11, a11, enc, hlp, fv, ints_len]
  · have hok : ok p = false := by simpa using hok
    have h10 := eqOkS p hf
    rw [hok] at h10
    have hfl : freeL p = [] := by simp [freeL, hok]
    rw [hfl]
    have hx : loopI G [1, 3, 4] [1, 5, 20] c11l0 ⟨[(1, .ref (0, 1) 1 0 0), (3, .nils), (4, .i 0)], [(1, .box (enc p).cells)], []⟩ = some (.exit 0, ⟨[(1, .ref (0, 1) 1 0 0), (3, .nils), (4, .i 0), (11, .b false)], [(1, .box (enc p).cells)], []⟩) := by
      rw [loopI_eq]
      obtain ⟨o, x, y, ps⟩ := p
      simp only [enc] at h10
      simp [r11l0, b11l0, enc, h10]
    rw [callI_eq]
    obtain ⟨o, x, y, ps⟩ := p
    simp only [enc, PV.cells] at hx
    simp [body1_eq _ _ (gp 11) g11, c11, a11, enc, hx, fv]
def gl : List Bool → Int → List Int
  | [], _ => []
  | b :: bs, i => if b = true then i :: gl bs (i + 1) else gl bs (i + 1)
theorem loop19 : ∀ (cr cd : List Bool) (acc : List Int), cd.length + cr.length = 30 → acc.length + cr.length ≤ 30 → ∀ i : Int, i = cd.length →
    loopI G [3, 12, 13] [6, 21] c10l0 ⟨[(3, rv 21 acc), (12, .agg (bls (cd ++ cr))), (13, .i i)], ro 21 acc, []⟩ =
      some (.exit 0, ⟨[(3, rv 21 (acc ++ gl cr i)), (12, .agg (bls (cd ++ cr))), (13, .i 30), (14, .b false)], ro 21 (acc ++ gl cr i), []⟩)
  | [], cd, acc, h, h2, i, hi => by
    have e : i = 30 := by simp at h; omega
    subst e
    rw [loopI_eq]
    cases acc <;> simp [r10l0, b10l0, rv, ro, gl]
  | c :: cr, cd, acc, h, h2, i, hi => by
    have hlt : i < 30 := by simp at h; omega
    have hge : 0 ≤ i := by omega
    have hc1 := bls_at cd c cr i.toNat (by omega)
    have hw : IntKind.i64.wrap (i + 1) = i + 1 := wr (by omega)
    cases c with
    | true =>
      have hn := loop19 cr (cd ++ [true]) (acc ++ [i]) (by simp at h ⊢; omega) (by simp at h2 ⊢; omega) (i + 1) (by simp; omega)
      rw [loopI_eq]
      cases acc with
      | nil =>
        simp [r10l0, b10l0, rv, ro, hlt, hge, hc1, hw]
        simpa [rv, ro, gl, ints] using hn
      | cons a acc =>
        have hb : acc.length + 1 + 1 ≤ 4294967296 := by simp at h2; omega
        simp [r10l0, b10l0, rv, ro, hlt, hge, hc1, hw, ints_len, hb]
        simpa [rv, ro, gl, ints, ints_app] using hn
    | false =>
      have hn := loop19 cr (cd ++ [false]) acc (by simp at h ⊢; omega) (by simp at h2 ⊢; omega) (i + 1) (by simp; omega)
      rw [loopI_eq]
      cases acc with
      | nil =>
        simp [r10l0, b10l0, rv, ro, hlt, hge, hc1, hw]
        simpa [rv, ro, gl] using hn
      | cons a acc =>
        simp [r10l0, b10l0, rv, ro, hlt, hge, hc1, hw]
        simpa [rv, ro, gl] using hn
theorem gl_fl (p : Pi) : ∀ (cr : List Bool) (k : Int), 0 ≤ k → (∀ j : Nat, j < cr.length → cr.getD j false = fr p (k + j)) → gl cr k = fl p cr.length k
  | [], k, _, _ => rfl
  | b :: bs, k, hk, h => by
    have h0 := h 0 (by simp)
    simp only [List.getD_cons_zero, show ((0 : Nat) : Int) = 0 from rfl, Int.add_zero] at h0
    have ih := gl_fl p bs (k + 1) (by omega) (fun j hj => by
      have := h (j + 1) (by simp; omega)
      simp only [List.getD_cons_succ, Int.natCast_add, show ((1 : Nat) : Int) = 1 from rfl] at this
      rw [this]; congr 1; omega)
    simp only [gl, List.length_cons, fl, ih, h0]
theorem eqFreeI (p : Pi) (hf : Fit p) : callI G 10 [enc p] [] = some (fv (freeL p), []) := by
  have h12 := eqOkI p hf
  by_cases hok : ok p = true
  · have hs := ok_shape' hok
    have h47 := eq47 p hf hs
    have hlp := loop19 (fre p) [] [] (by simp [fre_len]) (by simp [fre_len]) 0 rfl
    have hfl : freeL p = gl (fre p) 0 := by
      rw [gl_fl p (fre p) 0 (by omega) (fun j hj => by
        have := fre_fr p hs j (by omega)
        simpa [at30] using this), fre_len]
      simp [freeL, hok]
    rw [hfl]
    rw [hok] at h12
    rw [callI_eq]
    generalize fre p = F at *
    obtain ⟨o, x, y, ps⟩ := p
    simp only [enc] at h12 h47
    simp only [rv, ro, List.nil_append] at hlp
    cases hL : gl F 0 with
    | nil =>
      simp only [hL, rv, ro] at hlp
      simp [body1_eq _ _ (gp 10) g10, c10, a10, enc, h12, h47, hlp, fv]
    | cons a acc =>
      simp only [hL, rv, ro] at hlp
      simp [body1_eq _ _ (gp 10) g10, c10, a10, enc, h12, h47, hlp, fv, ints_len]
  · have hok : ok p = false := by simpa using hok
    rw [hok] at h12
    have hfl : freeL p = [] := by simp [freeL, hok]
    rw [hfl]
    rw [callI_eq]
    obtain ⟨o, x, y, ps⟩ := p
    simp only [enc] at h12
    simp [body1_eq _ _ (gp 10) g10, c10, a10, enc, h12, fv]
/-! the law -/
mutual
theorem szPi_cnt : ∀ (p : Pi) (l : Int), 0 ≤ l → 0 ≤ szPi p l → szPi p l = l + 1 - cnt p
  | .mk _ _ _ ps, l, h0, h => by
    simp only [szPi, cnt] at h ⊢
    split at h
    · omega
    · rename_i hn
      rw [if_neg hn, szL_cnt ps (l - ps.length) (by omega) h]
      omega
theorem szL_cnt : ∀ (ps : List Pi) (l : Int), 0 ≤ l → 0 ≤ szL ps l → szL ps l = l + ps.length - cnts ps
  | [], l, h0, h => by simp [szL, cnts]
  | p :: ps, l, h0, h => by
    simp only [szL, cnts] at h ⊢
    split at h
    · omega
    · rename_i hn
      have h1 := szPi_cnt p l h0 (by omega)
      rw [if_neg hn, szL_cnt ps (szPi p l) (by omega) h, h1]
      simp
      omega
end
end Go.Am
end
section
set_option maxRecDepth 10000
set_option maxHeartbeats 16000000
set_option linter.unusedSimpArgs false
set_option linter.unusedVariables false
namespace Go.Am
open Go.Proofs
/-! what is free -/
theorem fl_mem (p : Pi) : ∀ (k : Nat) (n y : Int), y ∈ fl p k n ↔ n ≤ y ∧ y < n + k ∧ fr p y = true
  | 0, n, y => by simp [fl]; omega
  | k + 1, n, y => by
    have ih := fl_mem p k (n + 1) y
    simp only [fl]
    split
    · rename_i h
      rw [List.mem_cons, ih]
      constructor
      · rintro (rfl | ⟨a, b, c⟩)
        · exact ⟨by omega, by omega, h⟩
        · exact ⟨by omega, by omega, c⟩
      · rintro ⟨a, b, c⟩
        by_cases e : y = n
        · exact .inl e
        · exact .inr ⟨by omega, by omega, c⟩
    · rename_i h
      rw [ih]
      constructor
      · rintro ⟨a, b, c⟩
        exact ⟨by omega, by omega, c⟩
      · rintro ⟨a, b, c⟩
        refine ⟨?_, by omega, c⟩
        by_cases e : y = n
        · subst e; exact absurd c h
        · omega
theorem fl_asc (p : Pi) : ∀ (k : Nat) (n : Int), AscL (fl p k n)
  | 0, n => by simp [fl, AscL]
  | k + 1, n => by
    have ih := fl_asc p k (n + 1)
    simp only [fl]
    split
    · refine List.pairwise_cons.2 ⟨fun y hy => ?_, ih⟩
      have := (fl_mem p k (n + 1) y).1 hy
      omega
    · exact ih
theorem freeL_len (p : Pi) : (freeL p).length ≤ 30 := by
  unfold freeL
  split
  · exact fl_len p 30 0
  · simp
theorem freeL_asc (p : Pi) : AscL (freeL p) := by
  unfold freeL
  split
  · exact fl_asc p 30 0
  · simp [AscL]
theorem ok_new {n : Int} {t : Pi} (h : ok (.mk 6 n 0 [t]) = true) : ok t = true := by
  unfold ok at h ⊢
  simp only [Bool.and_eq_true, decide_eq_true_eq] at h ⊢
  obtain ⟨h1, h2⟩ := h
  have hs : shape t = true := by
    simp only [shape] at h2
    split at h2
    · cases h2
    · simp [shapes] at h2; exact h2.2.2
  refine ⟨?_, hs⟩
  have a := pn_cnt (.mk 6 n 0 [t]) 14 (by omega)
  have b := pn_cnt t 14 (by omega)
  simp only [cnt, cnts] at a
  have := cnt_pos t
  by_cases hc : cnt t ≤ 13
  · rw [b.1 (by omega)]; omega
  · have := a.2 (by omega); omega
theorem free_new {n m : Int} {t : Pi} (h : ok (.mk 6 n 0 [t]) = true) (hm : 0 ≤ m) (hm2 : m < 30) : hasI (freeL (.mk 6 n 0 [t])) m = (hasI (freeL t) m && decide (¬ m = n)) := by
  have h2 := ok_new h
  rw [hasI_mem, hasI_mem]
  have e1 : freeL (.mk 6 n 0 [t]) = fl (.mk 6 n 0 [t]) 30 0 := by simp [freeL, h]
  have e2 : freeL t = fl t 30 0 := by simp [freeL, h2]
  rw [e1, e2]
  have e3 : fr (.mk 6 n 0 [t]) m = (decide (¬ n = m) && fr t m) := by simp [fr, frs, usB, usesL, bnd]
  have e4 : (m ∈ fl (.mk 6 n 0 [t]) 30 0) ↔ (m ∈ fl t 30 0 ∧ ¬ m = n) := by
    rw [fl_mem, fl_mem, e3]
    simp only [Bool.and_eq_true, decide_eq_true_eq]
    constructor
    · rintro ⟨a, b, c, d⟩
      exact ⟨⟨a, b, d⟩, fun e => c e.symm⟩
    · rintro ⟨⟨a, b, d⟩, c⟩
      exact ⟨a, b, fun e => c e.symm, d⟩
  have e5 : decide (m ∈ fl (.mk 6 n 0 [t]) 30 0) = decide (m ∈ fl t 30 0 ∧ ¬ m = n) := by simp only [e4]
  rw [e5]
  by_cases k1 : m ∈ fl t 30 0 <;> by_cases k2 : m = n <;> simp only [k1, k2, not_true, not_false_iff, and_true, and_false, true_and, false_and, decide_true, decide_false, Bool.and_true, Bool.and_false, Bool.true_and, Bool.false_and]
/-! the functions at drawn terms -/
theorem hPiFree (t : Pi) (hf : Fit t) : callI H 10 [encV false t] [] = some (fv (freeL t), []) := by
  rw [callI_prim' (p := viaP G 10 (weak 4)) rfl]
  simp only [viaP, List.map_cons, List.map_nil, weak_encV]
  exact eqFreeI t hf
theorem hPiFreeS (t : Pi) (hf : Fit t) : callI H 11 [encV false t] [] = some (fv (freeL t), []) := by
  rw [callI_prim' (p := viaP G 11 (weak 4)) rfl]
  simp only [viaP, List.map_cons, List.map_nil, weak_encV]
  exact eqFreeS t hf
theorem hPiOk (t : Pi) (hf : Fit t) : callI H 14 [encV false t] [] = some (.b (ok t), []) := by
  rw [callI_prim' (p := viaP G 14 (weak 4)) rfl]
  simp only [viaP, List.map_cons, List.map_nil, weak_encV]
  exact eqOkI t hf
theorem eqDrawPiFree (B : List Nat) (hB : B.length ≤ 9223372036854775807) (hb : ∀ b ∈ B, b < 256) : ∃ t, Nums t ∧ callI H 9 [.sl false 1 (byVs B)] [] = some (encV true t, []) := by
  obtain ⟨B', h1, h2, h3⟩ := eqOpen B hB
  have hr : RdrOK B' 0 := ⟨h1, fun b hb' => hb b (h2 b hb'), by omega, by omega⟩
  obtain ⟨t, q, e1, e2, nt, e3⟩ := eqDrawPi [[(2, .box [.i 0, .i 0, .i 0, .nils]), (6, rd B' 0)]] (0, 6) (by simp) B' 0 hr (by omega)
  have es : ∀ q, setS [[(2, .box [.i 0, .i 0, .i 0, .nils]), (6, rd B' 0)]] (0, 6) (rd B' q) = [[(2, .box [.i 0, .i 0, .i 0, .nils]), (6, rd B' q)]] := fun _ => rfl
  rw [es, es] at e3
  refine ⟨t, nt, ?_⟩
  rw [callI_eq]
  obtain ⟨to, tx, ty, tp, rfl, ⟨rfl, ht⟩ | ⟨ht, hE⟩⟩ := encV_two t <;>
    (rw [ht] at e3
     simp only [rd] at e3
     simp [body1_eq _ _ (gpH 9) g9, c9, a9, h3, e3, encVs_len, encV]
     try simp only [encW, hE]
     try simp only [encW])
mutual
theorem fal_encVF : ∀ p : Pi, fal (encV false p) = encV false p
  | .mk o x y ps => by
    simp only [encV, fal, fals]
    rw [fal_encWF ps]
theorem fal_encWF : ∀ ps : List Pi, fal (encW false ps) = encW false ps
  | [] => by simp [encW, fal]
  | p :: ps => by
    simp only [encW, fal, fals]
    rw [fal_encVF p, fals_encVsF ps]
theorem fals_encVsF : ∀ ps : List Pi, fals (encVs false ps) = encVs false ps
  | [] => by simp [encVs, fals]
  | p :: ps => by
    simp only [encVs, fals]
    rw [fal_encVF p, fals_encVsF ps]
end
/-- The parts of a drawn term: in the variable, in an element, and their block. -/
def PartsOK (W WF : PV) (O : Objs) : Prop := (W = .nils ∧ WF = .nils ∧ O = []) ∨ ∃ X, W = .own (0, 14) X.length ∧ WF = .sl false 4 X ∧ O = [(14, .frz 4 X)] ∧ fals X = X
def ListOK (d : Nat) (L : List Int) (X XF : PV) (O : Objs) : Prop := (X = .nils ∧ XF = .nils ∧ O = []) ∨ (X = .own (0, d) L.length ∧ XF = .sl false 1 (ints L) ∧ O = [(d, .row 1 (ints L))])
theorem loopPF0 (o x y n : Int) (W WF X0 X0F LV LVF : PV) (O14 O16 O35 : Objs) (L F : List Int) (hW : PartsOK W WF O14) (hL : ListOK 16 L X0 X0F O16) (hF : ListOK 35 F LV LVF O35)
    (hok : callI H 14 [.agg [.i 6, .i n, .i 0, .sl false 4 [.agg [.i o, .i x, .i y, WF]]]] [] = some (.b true, []))
    (hL1 : ∀ m, callI H 15 [X0F, .i m] [] = some (.b (hasI L m), [])) (hF1 : ∀ m, callI H 15 [LVF, .i m] [] = some (.b (hasI F m), [])) (hh : ∀ m : Int, 0 ≤ m → m < 30 → hasI F m = (hasI L m && decide (¬ m = n))) : ∀ (k : Nat) (m : Int), 0 ≤ m → m + k = 30 →
    loopI H [3, 4, 6, 7, 8, 9] [3, 7, 14, 16, 32, 35] c3l0 ⟨[(3, .ref (0, 3) 1 0 0), (4, X0), (6, .i n), (7, .ref (0, 7) 1 0 0), (8, LV), (9, .i m)], (3, .box [.i o, .i x, .i y, W]) :: (7, .box [.i 6, .i n, .i 0, .own (0, 32) 1]) :: (O14 ++ (O16 ++ ((32, .row 4 [.agg [.i o, .i x, .i y, WF]]) :: O35))), []⟩ =
      some (.exit 2, ⟨[(3, .ref (0, 3) 1 0 0), (4, X0), (6, .i n), (7, .ref (0, 7) 1 0 0), (8, LV), (9, .i 30), (41, .b false)], (3, .box [.i o, .i x, .i y, W]) :: (7, .box [.i 6, .i n, .i 0, .own (0, 32) 1]) :: (O14 ++ (O16 ++ ((32, .row 4 [.agg [.i o, .i x, .i y, WF]]) :: O35))), []⟩)
  | 0, m, h0, h1 => by
    have : m = 30 := by omega
    subst this
    rw [loopI_eq]
    rcases hW with ⟨rfl, rfl, rfl⟩ | ⟨X, rfl, rfl, rfl, hX⟩ <;> rcases hL with ⟨rfl, rfl, rfl⟩ | ⟨rfl, rfl, rfl⟩ <;> rcases hF with ⟨rfl, rfl, rfl⟩ | ⟨rfl, rfl, rfl⟩ <;>
      simp [r3l0, b3l0]
  | k + 1, m, h0, h1 => by
    have hn := loopPF0 o x y n W WF X0 X0F LV LVF O14 O16 O35 L F hW hL hF hok hL1 hF1 hh k (m + 1) (by omega) (by omega)
    refine Eq.trans ?_ hn
    have hlt : m < 30 := by omega
    have hw : IntKind.i64.wrap (m + 1) = m + 1 := wr (by omega)
    have e1 := hL1 m
    have e2 := hF1 m
    rw [hh m h0 hlt] at e2
    clear hn hh hL1 hF1
    generalize hasI L m = q at e1 e2
    rw [loopI_eq]
    by_cases q2 : m = n
    · have q3 : decide (¬ m = n) = false := by simp [q2]
      rw [q3, Bool.and_false] at e2
      subst q2
      rcases hW with ⟨rfl, rfl, rfl⟩ | ⟨X, rfl, rfl, rfl, hX⟩ <;> rcases hL with ⟨rfl, rfl, rfl⟩ | ⟨rfl, rfl, rfl⟩ <;> rcases hF with ⟨rfl, rfl, rfl⟩ | ⟨rfl, rfl, rfl⟩ <;> cases q <;>
        first
          | (exfalso; rw [e1] at e2; simp at e2; done)
          | simp [r3l0, b3l0, hlt, hok, hw, fals_ints, ints_len, e1, e2, hX]
          | simp [r3l0, b3l0, hlt, hok, hw, fals_ints, ints_len, e1, e2]
    · have q3 : decide (¬ m = n) = true := by simp [q2]
      rw [q3, Bool.and_true] at e2
      rcases hW with ⟨rfl, rfl, rfl⟩ | ⟨X, rfl, rfl, rfl, hX⟩ <;> rcases hL with ⟨rfl, rfl, rfl⟩ | ⟨rfl, rfl, rfl⟩ <;> rcases hF with ⟨rfl, rfl, rfl⟩ | ⟨rfl, rfl, rfl⟩ <;> cases q <;>
        first
          | simp [r3l0, b3l0, hlt, hok, hw, fals_ints, ints_len, e1, e2, q2, hX]
          | simp [r3l0, b3l0, hlt, hok, hw, fals_ints, ints_len, e1, e2, q2]
theorem loopPF0F (o x y n : Int) (W WF X0 X0F LV LVF : PV) (O14 O16 O35 : Objs) (L F : List Int) (hW : PartsOK W WF O14) (hL : ListOK 16 L X0 X0F O16) (hF : ListOK 35 F LV LVF O35)
    (hok : callI H 14 [.agg [.i 6, .i n, .i 0, .sl false 4 [.agg [.i o, .i x, .i y, WF]]]] [] = some (.b false, [])) :
    loopI H [3, 4, 6, 7, 8, 9] [3, 7, 14, 16, 32, 35] c3l0 ⟨[(3, .ref (0, 3) 1 0 0), (4, X0), (6, .i n), (7, .ref (0, 7) 1 0 0), (8, LV), (9, .i 0)], (3, .box [.i o, .i x, .i y, W]) :: (7, .box [.i 6, .i n, .i 0, .own (0, 32) 1]) :: (O14 ++ (O16 ++ ((32, .row 4 [.agg [.i o, .i x, .i y, WF]]) :: O35))), []⟩ =
      some (.exit 2, ⟨[(3, .ref (0, 3) 1 0 0), (4, X0), (6, .i n), (7, .ref (0, 7) 1 0 0), (8, LV), (9, .i 0), (41, .b false)], (3, .box [.i o, .i x, .i y, W]) :: (7, .box [.i 6, .i n, .i 0, .own (0, 32) 1]) :: (O14 ++ (O16 ++ ((32, .row 4 [.agg [.i o, .i x, .i y, WF]]) :: O35))), []⟩) := by
  rw [loopI_eq]
  rcases hW with ⟨rfl, rfl, rfl⟩ | ⟨X, rfl, rfl, rfl, hX⟩ <;> rcases hL with ⟨rfl, rfl, rfl⟩ | ⟨rfl, rfl, rfl⟩ <;> rcases hF with ⟨rfl, rfl, rfl⟩ | ⟨rfl, rfl, rfl⟩ <;>
    first
      | simp [r3l0, b3l0, hok, hX]
      | simp [r3l0, b3l0, hok]
theorem loopPF1 (o x y : Int) (W WF X0 X0F : PV) (O14 O16 : Objs) (t : Pi) (ht : .agg [.i o, .i x, .i y, WF] = encV false t) (hfit : Fit t) (hW : PartsOK W WF O14) (hL : ListOK 16 (freeL t) X0 X0F O16) (hX0 : X0F = fvF (freeL t)) : ∀ (k : Nat) (n : Int), 0 ≤ n → n + k = 8 →
    loopI H [3, 4, 6] [3, 14, 16] c3l1 ⟨[(3, .ref (0, 3) 1 0 0), (4, X0), (6, .i n)], (3, .box [.i o, .i x, .i y, W]) :: (O14 ++ O16), []⟩ =
      some (.exit 0, ⟨[(3, .ref (0, 3) 1 0 0), (4, X0), (6, .i 8), (27, .b false)], (3, .box [.i o, .i x, .i y, W]) :: (O14 ++ O16), []⟩)
  | 0, n, h0, h1 => by
    have : n = 8 := by omega
    subst this
    rw [loopI_eq]
    clear hX0
    generalize freeL t = L at hL
    rcases hW with ⟨rfl, rfl, rfl⟩ | ⟨X, rfl, rfl, rfl, hX⟩ <;> rcases hL with ⟨rfl, rfl, rfl⟩ | ⟨rfl, rfl, rfl⟩ <;>
      simp [r3l1, b3l1]
  | k + 1, n, h0, h1 => by
    have hn := loopPF1 o x y W WF X0 X0F O14 O16 t ht hfit hW hL hX0 k (n + 1) (by omega) (by omega)
    refine Eq.trans ?_ hn
    have hlt : n < 8 := by omega
    have hw : IntKind.i64.wrap (n + 1) = n + 1 := wr (by omega)
    have hfu : Fit (.mk 6 n 0 [t]) := ⟨by simp, hfit, trivial⟩
    have hu : encV false (.mk 6 n 0 [t]) = .agg [.i 6, .i n, .i 0, .sl false 4 [.agg [.i o, .i x, .i y, WF]]] := by rw [ht]; simp [encV, encW, encVs]
    have hO := hPiOk _ hfu
    have hP := hPiFree _ hfu
    rw [hu] at hO hP
    have hl1 := freeL_len t
    have hl2 := freeL_len (.mk 6 n 0 [t])
    have hE1 := fun m => eqMnHas (freeL t) m (by omega)
    have hE2 := fun m => eqMnHas (freeL (.mk 6 n 0 [t])) m (by omega)
    rw [← hX0] at hE1
    have inner : ∀ (LV : PV) (O35 : Objs), ListOK 35 (freeL (.mk 6 n 0 [t])) LV (fvF (freeL (.mk 6 n 0 [t]))) O35 → ∃ m,
        loopI H [3, 4, 6, 7, 8, 9] [3, 7, 14, 16, 32, 35] c3l0 ⟨[(3, .ref (0, 3) 1 0 0), (4, X0), (6, .i n), (7, .ref (0, 7) 1 0 0), (8, LV), (9, .i 0)], (3, .box [.i o, .i x, .i y, W]) :: (7, .box [.i 6, .i n, .i 0, .own (0, 32) 1]) :: (O14 ++ (O16 ++ ((32, .row 4 [.agg [.i o, .i x, .i y, WF]]) :: O35))), []⟩ =
          some (.exit 2, ⟨[(3, .ref (0, 3) 1 0 0), (4, X0), (6, .i n), (7, .ref (0, 7) 1 0 0), (8, LV), (9, .i m), (41, .b false)], (3, .box [.i o, .i x, .i y, W]) :: (7, .box [.i 6, .i n, .i 0, .own (0, 32) 1]) :: (O14 ++ (O16 ++ ((32, .row 4 [.agg [.i o, .i x, .i y, WF]]) :: O35))), []⟩) := by
      intro LV O35 hF
      cases hb : ok (.mk 6 n 0 [t]) with
      | true =>
        rw [hb] at hO
        exact ⟨30, loopPF0 o x y n W WF X0 X0F LV _ O14 O16 O35 _ _ hW hL hF hO hE1 hE2 (fun m a b => free_new hb a b) 30 0 (by omega) (by omega)⟩
      | false =>
        rw [hb] at hO
        exact ⟨0, loopPF0F o x y n W WF X0 X0F LV _ O14 O16 O35 _ _ hW hL hF hO⟩
    clear hn hE1 hE2 hX0 hu ht hO
    generalize freeL (.mk 6 n 0 [t]) = F at *
    generalize freeL t = L at *
    rw [loopI_eq]
    by_cases hF0 : F = []
    · subst hF0
      obtain ⟨m, inner⟩ := inner .nils [] (.inl ⟨rfl, rfl, rfl⟩)
      simp only [fv] at hP
      rcases hW with ⟨rfl, rfl, rfl⟩ | ⟨X, rfl, rfl, rfl, hX⟩ <;> rcases hL with ⟨rfl, rfl, rfl⟩ | ⟨rfl, rfl, rfl⟩ <;>
        (simp only [List.nil_append, List.append_nil, List.cons_append] at inner
         first
          | simp [r3l1, b3l1, hlt, hw, hP, inner, hX]
          | simp [r3l1, b3l1, hlt, hw, hP, inner])
    · obtain ⟨m, inner⟩ := inner (.own (0, 35) F.length) [(35, .row 1 (ints F))] (.inr ⟨rfl, by simp [fvF, hF0], rfl⟩)
      have hfv : fv F = .sl true 1 (ints F) := by cases F <;> first | exact absurd rfl hF0 | rfl
      rw [hfv] at hP
      rcases hW with ⟨rfl, rfl, rfl⟩ | ⟨X, rfl, rfl, rfl, hX⟩ <;> rcases hL with ⟨rfl, rfl, rfl⟩ | ⟨rfl, rfl, rfl⟩ <;>
        (simp only [List.nil_append, List.append_nil, List.cons_append] at inner
         first
          | simp [r3l1, b3l1, hlt, hw, hP, inner, hX, ints_len]
          | simp [r3l1, b3l1, hlt, hw, hP, inner, ints_len])
theorem lawFnPiFree (B : List Nat) (hB : B.length ≤ 9223372036854775807) (hb : ∀ b ∈ B, b < 256) : callI H 3 [.sl false 1 (byVs B)] [] = some (.b true, []) := by
  rw [callI_eq]
  have hBl := byVs_len B
  by_cases hbig : (1048576 : Int) < B.length
  · simp [body1_eq _ _ (gpH 3) g3, c3, a3, hBl, hbig]
  obtain ⟨t, nt, hd⟩ := eqDrawPiFree B hB hb
  have hfit := nt.fit
  have hI := hPiFree t hfit
  have hS := hPiFreeS t hfit
  have h1 := eqMnInts (freeL t) (by have := freeL_len t; omega)
  have h2 := eqMnRises (freeL t) (freeL_asc t) (by have := freeL_len t; omega)
  have lp := fun o x y W WF X0 X0F O14 O16 ht hW hL hX => loopPF1 o x y W WF X0 X0F O14 O16 t ht hfit hW hL hX 8 0 (by omega) (by omega)
  generalize freeL t = L at *
  by_cases hL0 : L = []
  · subst hL0
    simp only [fv, fvF, if_true] at hI hS h1 h2
    obtain ⟨to, tx, ty, tp, rfl, ⟨rfl, ht⟩ | ⟨ht, hE⟩⟩ := encV_two t
    · have lp := lp to tx ty .nils .nils .nils .nils [] [] rfl (.inl ⟨rfl, rfl, rfl⟩) (.inl ⟨rfl, rfl, rfl⟩) rfl
      rw [ht] at hd
      simp only [encV, encW] at hI hS
      simp [body1_eq _ _ (gpH 3) g3, c3, a3, hBl, hbig, hd, hI, hS, h1, h2]
      simp at lp
      simp [lp]
    · have hW : encW false tp = .sl false 4 (encVs false tp) := by
        have := congrArg fal hE
        rw [fal_encW] at this
        simpa [fal, fals_encVs] using this
      have lp := lp to tx ty (.own (0, 14) (encVs false tp).length) (.sl false 4 (encVs false tp)) .nils .nils [(14, .frz 4 (encVs false tp))] [] (by simp [encV, hW]) (.inr ⟨_, rfl, rfl, rfl, fals_encVsF tp⟩) (.inl ⟨rfl, rfl, rfl⟩) rfl
      rw [ht] at hd
      simp only [encV, hW] at hI hS
      simp only [encVs_len] at lp
      simp [body1_eq _ _ (gpH 3) g3, c3, a3, hBl, hbig, hd, hI, hS, h1, h2, encVs_len, fals_encVs, fals_encVsF]
      simp at lp
      simp [lp]
  · have hfv : fv L = .sl true 1 (ints L) := by cases L <;> first | exact absurd rfl hL0 | rfl
    rw [hfv] at hI hS
    simp only [fvF, if_neg hL0] at h1 h2
    obtain ⟨to, tx, ty, tp, rfl, ⟨rfl, ht⟩ | ⟨ht, hE⟩⟩ := encV_two t
    · have lp := lp to tx ty .nils .nils (.own (0, 16) L.length) (.sl false 1 (ints L)) [] [(16, .row 1 (ints L))] rfl (.inl ⟨rfl, rfl, rfl⟩) (.inr ⟨rfl, rfl, rfl⟩) (by simp [fvF, hL0])
      rw [ht] at hd
      simp only [encV, encW] at hI hS
      simp [body1_eq _ _ (gpH 3) g3, c3, a3, hBl, hbig, hd, hI, hS, h1, h2, ints_len, fals_ints]
      simp at lp
      simp [lp]
    · have hW : encW false tp = .sl false 4 (encVs false tp) := by
        have := congrArg fal hE
        rw [fal_encW] at this
        simpa [fal, fals_encVs] using this
      have lp := lp to tx ty (.own (0, 14) (encVs false tp).length) (.sl false 4 (encVs false tp)) (.own (0, 16) L.length) (.sl false 1 (ints L)) [(14, .frz 4 (encVs false tp))] [(16, .row 1 (ints L))] (by simp [encV, hW]) (.inr ⟨_, rfl, rfl, rfl, fals_encVsF tp⟩) (.inr ⟨rfl, rfl, rfl⟩) (by simp [fvF, hL0])
      rw [ht] at hd
      simp only [encV, hW] at hI hS
      simp only [encVs_len] at lp
      simp [body1_eq _ _ (gpH 3) g3, c3, a3, hBl, hbig, hd, hI, hS, h1, h2, encVs_len, fals_encVs, fals_encVsF, ints_len, fals_ints]
      simp at lp
      simp [lp]
end Go.Am
end
