/- What is guessed. -/
import Derived.Test.YtifebchegfnajaaFreeEqs
import Derived.Test.YtifebchegfnajaaSortEqs
section
set_option maxRecDepth 10000
set_option linter.unusedSimpArgs false
set_option linter.unusedVariables false
namespace Go.Am
open Go.Proofs
theorem setO_same (d : Nat) (ob : OB) : ∀ l : Objs, getO l d = some ob → setO l d ob = l
  | [], h => by cases h
  | (k, v) :: l, h => by
    simp only [getO] at h
    by_cases hk : k = d
    · rw [if_pos hk] at h
      simp only [Option.some.injEq] at h
      simp [setO, hk, h]
    · rw [if_neg hk] at h
      have hh := setO_same d ob l h
      simp only [setO, if_neg hk, hh]
theorem setS_same (o : Stack) (id : Id) (ob : OB) (hg : getS o id = some ob) : setS o id ob = o := by
  unfold setS
  apply List.ext_getElem?
  intro j
  rw [List.getElem?_modify]
  by_cases h : id.1 = j
  · subst h
    unfold getS at hg
    cases hl : o[id.1]? with
    | none => rw [hl] at hg; cases hg
    | some l =>
      rw [hl] at hg
      simp only [Option.bind_some] at hg
      simp only [if_true]
      show (some (setO l id.2 ob)) = some l
      rw [setO_same _ _ l hg]
  · simp [h]
theorem setS_app (o : Stack) (l : Objs) (id : Id) (ob : OB) (hid : id.1 < o.length) : setS (o ++ [l]) id ob = setS o id ob ++ [l] := by
  unfold setS
  apply List.ext_getElem?
  intro i
  simp only [List.getElem?_modify]
  rcases Nat.lt_trichotomy i o.length with h | h | h
  · rw [List.getElem?_append_left h, List.getElem?_append_left (by simpa using h), List.getElem?_modify]
  · subst h
    have : ¬ id.1 = o.length := by omega
    simp [this]
  · rw [List.getElem?_eq_none (by simp; omega), List.getElem?_eq_none (by simp; omega)]
    have : ¬ id.1 = i := by omega
    simp [this]
theorem getS_app (o : Stack) (l : Objs) (id : Id) (hid : id.1 < o.length) : getS (o ++ [l]) id = getS o id := by
  unfold getS
  rw [List.getElem?_append_left hid]
/-! spec.l16Guess -/
def gsr (p : Pi) (cs : List Int) : List Int → List Int → Bool × List Int
  | [], ss => (srtd p ss cs, ss)
  | f :: r, ss =>
    if (gsr p cs r (ss.set f.toNat 0)).1 = true then (true, (gsr p cs r (ss.set f.toNat 0)).2)
    else if (gsr p cs r ((gsr p cs r (ss.set f.toNat 0)).2.set f.toNat 1)).1 = true then (true, (gsr p cs r ((gsr p cs r (ss.set f.toNat 0)).2.set f.toNat 1)).2)
    else if (gsr p cs r ((gsr p cs r ((gsr p cs r (ss.set f.toNat 0)).2.set f.toNat 1)).2.set f.toNat 2)).1 = true then (true, (gsr p cs r ((gsr p cs r ((gsr p cs r (ss.set f.toNat 0)).2.set f.toNat 1)).2.set f.toNat 2)).2)
    else (false, (gsr p cs r ((gsr p cs r ((gsr p cs r (ss.set f.toNat 0)).2.set f.toNat 1)).2.set f.toNat 2)).2.set f.toNat 0)
theorem gsr_srts (p : Pi) (cs : List Int) : ∀ (r ss : List Int), Srts 30 ss → Srts 30 (gsr p cs r ss).2
  | [], ss, h => h
  | f :: r, ss, h => by
    have h0 := gsr_srts p cs r _ (h.set f.toNat 0 (by omega))
    have h1 := gsr_srts p cs r _ (h0.set f.toNat 1 (by omega))
    have h2 := gsr_srts p cs r _ (h1.set f.toNat 2 (by omega))
    simp only [gsr]
    split
    · exact h0
    · split
      · exact h1
      · split
        · exact h2
        · exact h2.set f.toNat 0 (by omega)
theorem guess_eq (p : Pi) (hf : Fit p) (hs : shape p = true) (cs : List Int) (hc : Srts 3 cs) : ∀ (rest done : List Int), (∀ f ∈ rest, 0 ≤ f ∧ f < 30) → done.length + rest.length ≤ 30 → ∀ (ss : List Int), Srts 30 ss → ∀ (o : Stack) (id : Id), id.1 < o.length → getS o id = some (.row 1 (ints ss)) →
    callI G 24 [enc p, .sl false 1 (ints (done ++ rest)), .i done.length, .own id 30, .sl false 1 (ints cs)] o = some (.b (gsr p cs rest ss).1, setS o id (.row 1 (ints (gsr p cs rest ss).2)))
  | [], done, hr, hl, ss, h1, o, id, hid, hg => by
    have h34 := eq43 p hf hs ss cs h1 hc
    have hne : ¬ id.1 = o.length := by omega
    have hs30 : ss.length = 30 := h1.1
    have hget : ∀ r l, St.get ⟨r, l, o⟩ id = some (.row 1 (ints ss)) := fun r l => by rw [get_low hid, hg]
    have hset : ∀ r l R, St.set ⟨r, l, o⟩ id R = ⟨r, l, setS o id R⟩ := fun r l R => set_low hid
    have hset2 : ∀ r l R Q, St.set ⟨r, l, setS o id R⟩ id Q = ⟨r, l, setS o id Q⟩ := fun r l R Q => by rw [set_low (by rw [setS_len]; exact hid), setS_setS]
    have hgo : ∀ r l d, St.get ⟨r, l, o⟩ (o.length, d) = getO l d := fun r l d => get_own
    have hso : ∀ r l d ob, St.set ⟨r, l, o⟩ (o.length, d) ob = ⟨r, setO l d ob, o⟩ := fun r l d ob => set_own
    have hsame := setS_same o id _ hg
    rw [callI_eq]
    obtain ⟨po, px, py, ps⟩ := p
    simp only [enc] at h34
    simp [-St.get, -St.set, body1_eq _ _ (gp 24) g24, c24, a24, enc, hne, hget, hset, hset2, hgo, hso, h34, hs30, fals_ints, ints_len, gsr, hsame]
  | f :: rest, done, hr, hl, ss, h1, o, id, hid, hg => by
    have hne : ¬ id.1 = o.length := by omega
    have hne2 : ∀ R : Stack, R.length = o.length → ¬ id.1 = R.length := by intro R h; omega
    obtain ⟨hf0, hf1⟩ := hr f List.mem_cons_self
    have hat := ints_at done f rest
    simp only [List.length_cons] at hl
    have hlt2 : (done.length : Int) < (done.length : Int) + ((rest.length : Int) + 1) := by omega
    have hwd : IntKind.i64.wrap ((done.length : Int) + 1) = (done.length : Int) + 1 := wr (by omega)
    obtain ⟨po, px, py, ps⟩ := p
    have step : ∀ (k : Int), 0 ≤ k → k < 3 → ∀ ss', Srts 30 ss' →
        loopI G [1, 2, 3, 4, 5, 11] [5] c24l0 ⟨[(1, .sl false 1 (ints (done ++ f :: rest))), (2, .i done.length), (3, .own id 30), (4, .sl false 1 (ints cs)), (5, .ref (o.length, 5) 1 0 0), (11, .i k)], [(5, .box [.i po, .i px, .i py, .sl false 4 (encs ps)])], setS o id (.row 1 (ints ss'))⟩ =
          if (gsr (.mk po px py ps) cs rest (ss'.set f.toNat k)).1 = true then some (.ret, ⟨[(10, .b true)], [], setS o id (.row 1 (ints (gsr (.mk po px py ps) cs rest (ss'.set f.toNat k)).2))⟩)
          else loopI G [1, 2, 3, 4, 5, 11] [5] c24l0 ⟨[(1, .sl false 1 (ints (done ++ f :: rest))), (2, .i done.length), (3, .own id 30), (4, .sl false 1 (ints cs)), (5, .ref (o.length, 5) 1 0 0), (11, .i (k + 1))], [(5, .box [.i po, .i px, .i py, .sl false 4 (encs ps)])], setS o id (.row 1 (ints (gsr (.mk po px py ps) cs rest (ss'.set f.toNat k)).2))⟩ := by
      intro k hk0 hk3 ss' h'
      have hs30 : ss'.length = 30 := h'.1
      have hw : IntKind.i64.wrap (k + 1) = k + 1 := wr (by omega)
      have hget : ∀ r l R, St.get ⟨r, l, setS o id R⟩ id = some R := fun r l R => by rw [get_low (by rw [setS_len]; exact hid), getS_setS hid]
      have hset : ∀ r l R Q, St.set ⟨r, l, setS o id R⟩ id Q = ⟨r, l, setS o id Q⟩ := fun r l R Q => by rw [set_low (by rw [setS_len]; exact hid), setS_setS]
      have hgo : ∀ r l R d, St.get ⟨r, l, setS o id R⟩ (o.length, d) = getO l d := fun r l R d => by rw [← setS_len o id R, get_own]
      have gf := ints_gi ss' f hf0 (by omega)
      have hst : (ints ss').set f.toNat (.i k) = ints (ss'.set f.toNat k) := ints_set _ _ _
      have hrec := guess_eq (.mk po px py ps) hf hs cs hc rest (done ++ [f]) (fun g hg => hr g (List.mem_cons_of_mem _ hg)) (by simp; omega) (ss'.set f.toNat k) (h'.set _ _ ⟨hk0, hk3⟩) (setS o id (.row 1 (ints (ss'.set f.toNat k))) ++ [[]]) id (by simp [setS_len]; omega) (by rw [getS_app _ _ _ (by rw [setS_len]; exact hid), getS_setS hid])
      rw [setS_app _ _ _ _ (by rw [setS_len]; exact hid), setS_setS] at hrec
      simp only [List.append_assoc, List.cons_append, List.nil_append, List.length_append, List.length_cons, List.length_nil, enc, Int.natCast_add, show ((0 + 1 : Nat) : Int) = 1 from rfl] at hrec
      rw [loopI_eq]
      generalize gsr (.mk po px py ps) cs rest (ss'.set f.toNat k) = gr at *
      obtain ⟨b, s2⟩ := gr
      cases b <;> simp [-St.get, -St.set, r24l0, b24l0, hne, hk3, hget, hset, hgo, hat, hlt2, hf0, hf1, hs30, ints_len, gf, unAgg, hst, setS_len, hwd, hrec, hw]
    have hex : ∀ R, loopI G [1, 2, 3, 4, 5, 11] [5] c24l0 ⟨[(1, .sl false 1 (ints (done ++ f :: rest))), (2, .i done.length), (3, .own id 30), (4, .sl false 1 (ints cs)), (5, .ref (o.length, 5) 1 0 0), (11, .i 3)], [(5, .box [.i po, .i px, .i py, .sl false 4 (encs ps)])], setS o id R⟩ =
        some (.exit 0, ⟨[(1, .sl false 1 (ints (done ++ f :: rest))), (2, .i done.length), (3, .own id 30), (4, .sl false 1 (ints cs)), (5, .ref (o.length, 5) 1 0 0), (11, .i 3), (21, .b false)], [(5, .box [.i po, .i px, .i py, .sl false 4 (encs ps)])], setS o id R⟩) := by
      intro R
      rw [loopI_eq]
      simp [-St.get, -St.set, r24l0, b24l0, hne, setS_len]
    have e0 := step 0 (by omega) (by omega) ss h1
    have g0 := gsr_srts (.mk po px py ps) cs rest _ (h1.set f.toNat 0 (by omega))
    have e1 := step 1 (by omega) (by omega) _ g0
    have g1 := gsr_srts (.mk po px py ps) cs rest _ (g0.set f.toNat 1 (by omega))
    have e2 := step 2 (by omega) (by omega) _ g1
    have g2 := gsr_srts (.mk po px py ps) cs rest _ (g1.set f.toNat 2 (by omega))
    have hsame := setS_same o id _ hg
    rw [hsame] at e0
    have hl : (done.length : Int) + (rest.length + 1) ≠ done.length := by omega
    have hl3 : ¬ (done.length : Int) = (done.length : Int) + ((rest.length : Int) + 1) := by omega
    have hget : ∀ r l R, St.get ⟨r, l, setS o id R⟩ id = some R := fun r l R => by rw [get_low (by rw [setS_len]; exact hid), getS_setS hid]
    have hset : ∀ r l R Q, St.set ⟨r, l, setS o id R⟩ id Q = ⟨r, l, setS o id Q⟩ := fun r l R Q => by rw [set_low (by rw [setS_len]; exact hid), setS_setS]
    have hgo : ∀ r l d, St.get ⟨r, l, o⟩ (o.length, d) = getO l d := fun r l d => get_own
    have hso : ∀ r l d ob, St.set ⟨r, l, o⟩ (o.length, d) ob = ⟨r, setO l d ob, o⟩ := fun r l d ob => set_own
    have gf := ints_gi _ f hf0 (show f < ((gsr (.mk po px py ps) cs rest ((gsr (.mk po px py ps) cs rest ((gsr (.mk po px py ps) cs rest (ss.set f.toNat 0)).2.set f.toNat 1)).2.set f.toNat 2)).2.length : Int) by rw [g2.1]; exact hf1)
    simp only [gsr]
    have hlen2 := g2.1
    rw [callI_eq]
    generalize hA : gsr (.mk po px py ps) cs rest (ss.set f.toNat 0) = A at *
    obtain ⟨b0, s0⟩ := A
    cases b0 with
    | true =>
      simp only [if_true] at e0
      simp [-St.get, -St.set, body1_eq _ _ (gp 24) g24, c24, a24, enc, hne, ints_len, hl, hl3, hgo, hso, e0, setS_len]
    | false =>
      simp only [Bool.false_eq_true, if_false, Int.zero_add] at e0
      generalize hB : gsr (.mk po px py ps) cs rest (s0.set f.toNat 1) = B at *
      obtain ⟨b1, s1⟩ := B
      rw [e1] at e0
      cases b1 with
      | true =>
        simp only [if_true] at e0
        simp [-St.get, -St.set, body1_eq _ _ (gp 24) g24, c24, a24, enc, hne, ints_len, hl, hl3, hgo, hso, e0, setS_len]
      | false =>
        simp only [Bool.false_eq_true, if_false, show (1 : Int) + 1 = 2 from rfl] at e0
        generalize hC : gsr (.mk po px py ps) cs rest (s1.set f.toNat 2) = C at *
        obtain ⟨b2, s2⟩ := C
        rw [e2] at e0
        cases b2 with
        | true =>
          simp only [if_true] at e0
          simp [-St.get, -St.set, body1_eq _ _ (gp 24) g24, c24, a24, enc, hne, ints_len, hl, hl3, hgo, hso, e0, setS_len]
        | false =>
          simp only [Bool.false_eq_true, if_false, show (2 : Int) + 1 = 3 from rfl] at e0
          rw [hex] at e0
          simp [-St.get, -St.set, body1_eq _ _ (gp 24) g24, c24, a24, enc, hne, ints_len, hl, hl3, hgo, hso, e0, setS_len, hat, hlt2, hget, hset, gf, hf0, hf1, hlen2, unAgg, ints_set]
end Go.Am
end
section
set_option maxRecDepth 10000
set_option linter.unusedSimpArgs false
set_option linter.unusedVariables false
namespace Go.Am
open Go.Proofs
def zeros : List Int := List.replicate 30 0
theorem zeros_srts : Srts 30 zeros := ⟨by simp [zeros], fun s hs => by
  have := List.eq_of_mem_replicate hs
  omega⟩
theorem ints_rep (n : Nat) : List.replicate n (PV.i 0) = ints (List.replicate n 0) := by
  induction n with
  | zero => rfl
  | succ n ih => simp [List.replicate_succ, ints, ih]
def dg (L : List Int) : Nat → Nat → List Int → List Int
  | 0, _, ss => ss
  | j + 1, n, ss => dg L j (n / 3) (ss.set (gi L j).toNat ((n % 3 : Nat) : Int))
theorem dg_srts (L : List Int) : ∀ (j n : Nat) (ss : List Int), Srts 30 ss → Srts 30 (dg L j n ss)
  | 0, _, _, h => h
  | j + 1, n, ss, h => dg_srts L j _ _ (h.set _ _ (by omega))
def fnd (p : Pi) (cs L : List Int) : Nat → Nat → Option (List Int)
  | 0, _ => none
  | k + 1, n => if srtd p (dg L L.length n zeros) cs = true then some (dg L L.length n zeros) else fnd p cs L k (n + 1)
/-- A list of names, or none at all. -/
def NmL (L : List Int) : Prop := L.Nodup ∧ ∀ f ∈ L, 0 ≤ f ∧ f < 30
/-! impl.PiGuess -/
def p3 : Nat → Nat
  | 0 => 1
  | n + 1 => p3 n * 3
theorem p3_le : ∀ n, n ≤ 6 → p3 n ≤ 729 := by
  intro n h
  have : n = 0 ∨ n = 1 ∨ n = 2 ∨ n = 3 ∨ n = 4 ∨ n = 5 ∨ n = 6 := by omega
  rcases this with rfl | rfl | rfl | rfl | rfl | rfl | rfl <;> decide
theorem loopG0 (cs L : List Int) (T : List PV) (hk : ∀ g n, knowns g n T = true) (hl : L.length ≤ 6) : ∀ (k i : Nat), i + k = L.length →
    loopI G [1, 2, 6, 7, 28, 29] [2, 13] c9l0 ⟨[(1, .sl false 1 (ints cs)), (2, .ref (0, 2) 1 0 0), (6, rv 13 L), (7, .i (p3 i)), (28, .i L.length), (29, .i i)], (2, .box T) :: ro 13 L, []⟩ =
      some (.exit 0, ⟨[(1, .sl false 1 (ints cs)), (2, .ref (0, 2) 1 0 0), (6, rv 13 L), (7, .i (p3 L.length)), (28, .i L.length), (29, .i L.length), (30, .b false)], (2, .box T) :: ro 13 L, []⟩)
  | 0, i, h => by
    have e : i = L.length := by omega
    subst e
    rw [loopI_eq]
    cases L <;> simp [r9l0, b9l0, rv, ro, hk]
  | k + 1, i, h => by
    have hlt : (i : Int) < L.length := by omega
    have hw : IntKind.i64.wrap ((i : Int) + 1) = (i : Int) + 1 := wr (by omega)
    have hp : p3 (i + 1) ≤ 729 := p3_le _ (by omega)
    have hp2 : ((p3 (i + 1) : Nat) : Int) = (p3 i : Int) * 3 := by simp [p3]
    have hw2 : IntKind.i64.wrap ((p3 i : Int) * 3) = (p3 i : Int) * 3 := wr (by omega)
    have hn := loopG0 cs L T hk hl k (i + 1) (by omega)
    rw [hp2] at hn
    simp only [Int.natCast_add, show ((1 : Nat) : Int) = 1 from rfl] at hn
    rw [loopI_eq]
    cases L with
    | nil => simp at hlt; omega
    | cons a L =>
      simp only [rv, ro] at hn ⊢
      simp only [List.length_cons] at hlt hn ⊢
      simp only [Int.natCast_add, show ((1 : Nat) : Int) = 1 from rfl] at hlt hn
      simp [r9l0, b9l0, hk, hlt, hw, hw2, hn]
theorem loopG1 (cs L : List Int) (T : List PV) (hk : ∀ g n, knowns g n T = true) (al nn : Int) (hL : NmL L) (hl : L.length ≤ 6) : ∀ (j n : Nat) (ss : List Int), j ≤ L.length → n ≤ 1000000 → Srts 30 ss →
    ∃ n' : Int, loopI G [1, 2, 6, 7, 8, 9, 10, 11] [2, 13, 39] c9l1 ⟨[(1, .sl false 1 (ints cs)), (2, .ref (0, 2) 1 0 0), (6, rv 13 L), (7, .i al), (8, .i nn), (9, .own (0, 39) 30), (10, .i n), (11, .i (j - 1))], (2, .box T) :: (ro 13 L ++ [(39, .row 1 (ints ss))]), []⟩ =
      some (.exit 4, ⟨[(1, .sl false 1 (ints cs)), (2, .ref (0, 2) 1 0 0), (6, rv 13 L), (7, .i al), (8, .i nn), (9, .own (0, 39) 30), (10, .i n'), (11, .i (-1)), (45, .b false)], (2, .box T) :: (ro 13 L ++ [(39, .row 1 (ints (dg L j n ss)))]), []⟩)
  | 0, n, ss, h, hn, h1 => by
    refine ⟨n, ?_⟩
    rw [loopI_eq]
    cases L <;> simp [r9l1, b9l1, rv, ro, hk, dg]
  | j + 1, n, ss, h, hnn, h1 => by
    have hs30 : ss.length = 30 := h1.1
    have gl := ints_gi L j (by omega) (by omega)
    obtain ⟨g0, g1⟩ : 0 ≤ gi L j ∧ gi L j < 30 := by
      have hlt : j < L.length := by omega
      have : gi L j ∈ L := by
        unfold gi
        rw [List.getD_eq_getElem?_getD, List.getElem?_eq_getElem (by omega : ((j : Int)).toNat < L.length)]
        exact List.getElem_mem _
      exact hL.2 _ this
    have gs := ints_gi ss (gi L j) g0 (by omega)
    have e1 : (n : Int).tmod 3 = ((n % 3 : Nat) : Int) := rfl
    have e2 : (n : Int).tdiv 3 = ((n / 3 : Nat) : Int) := rfl
    have hw : IntKind.i64.wrap ((n / 3 : Nat) : Int) = ((n / 3 : Nat) : Int) := wr (by omega)
    have hw3 : IntKind.i64.wrap ((n : Int) / 3) = (n : Int) / 3 := wr (by omega)
    have hw2 : IntKind.i64.wrap ((j : Int) - 1) = (j : Int) - 1 := wr (by omega)
    have hj0 : (0 : Int) ≤ j := by omega
    have hjl : (j : Int) < L.length := by omega
    have e3 : ((j + 1 : Nat) : Int) - 1 = j := by omega
    obtain ⟨n', hr⟩ := loopG1 cs L T hk al nn hL hl j (n / 3) (ss.set (gi L j).toNat ((n % 3 : Nat) : Int)) (by omega) (by omega) (h1.set _ _ (by omega))
    refine ⟨n', ?_⟩
    rw [e3, loopI_eq]
    cases L with
    | nil => simp at h
    | cons a L =>
      simp only [rv, ro, List.cons_append, List.nil_append, List.length_cons] at hr gl ⊢
      simp only [List.length_cons, Int.natCast_add, show ((1 : Nat) : Int) = 1 from rfl] at hjl
      simp only [Int.toNat_natCast] at gl
      simp [r9l1, b9l1, hk, hj0, hjl, gl, ints_len, g0, g1, hs30, gs, e1, e2, hw, hw2, hw3, unAgg, ints_set]
      simpa [dg] using hr
theorem loopG2 (p : Pi) (hf : Fit p) (hs : shape p = true) (cs L : List Int) (hc : Srts 3 cs) (hL : NmL L) (hl : L.length ≤ 6) (al : Nat) (hal : al ≤ 729) : ∀ (k n : Nat), n + k = al →
    ∃ r, loopI G [1, 2, 6, 7, 8] [2, 13] c9l2 ⟨[(1, .sl false 1 (ints cs)), (2, .ref (0, 2) 1 0 0), (6, rv 13 L), (7, .i al), (8, .i n)], (2, .box (enc p).cells) :: ro 13 L, []⟩ = some r ∧
      ((∃ ss, fnd p cs L k n = some ss ∧ ss.length = 30 ∧ r = (.ret, ⟨[(4, .own (0, 39) 30), (5, .b true)], [(39, .row 1 (ints ss))], []⟩)) ∨
       (fnd p cs L k n = none ∧ r = (.exit 2, ⟨[(1, .sl false 1 (ints cs)), (2, .ref (0, 2) 1 0 0), (6, rv 13 L), (7, .i al), (8, .i al), (36, .b false)], (2, .box (enc p).cells) :: ro 13 L, []⟩)))
  | 0, n, h => by
    have e : n = al := by omega
    subst e
    rw [loopI_eq]
    obtain ⟨po, px, py, ps⟩ := p
    cases L <;> simp [r9l2, b9l2, rv, ro, enc, fnd]
  | k + 1, n, h => by
    obtain ⟨r, hn, hr⟩ := loopG2 p hf hs cs L hc hL hl al hal k (n + 1) (by omega)
    have hlt : (n : Int) < al := by omega
    have hw : IntKind.i64.wrap ((n : Int) + 1) = (n : Int) + 1 := wr (by omega)
    have hwl : IntKind.i64.wrap ((L.length : Int) - 1) = (L.length : Int) - 1 := wr (by omega)
    obtain ⟨n', h1⟩ := loopG1 cs L (enc p).cells (by intro g m; obtain ⟨po, px, py, ps⟩ := p; simp [enc]) al n hL hl L.length n zeros (Nat.le_refl _) (by omega) zeros_srts
    have hd := dg_srts L L.length n zeros zeros_srts
    have h45 := eq45 p hf hs (dg L L.length n zeros) cs hd hc
    have hd30 : (dg L L.length n zeros).length = 30 := hd.1
    have hrep : List.replicate 30 (PV.i 0) = ints zeros := ints_rep 30
    simp only [Int.natCast_add, show ((1 : Nat) : Int) = 1 from rfl] at hn
    rw [loopI_eq]
    generalize hD : dg L L.length n zeros = D at *
    obtain ⟨po, px, py, ps⟩ := p
    simp only [enc, PV.cells] at h45 hn hr h1
    simp only [enc, PV.cells]
    have hz : ints zeros = List.replicate 30 (PV.i 0) := hrep.symm
    rw [hz] at h1
    have hz2 : List.replicate 30 (PV.i 0) = [.i 0, .i 0, .i 0, .i 0, .i 0, .i 0, .i 0, .i 0, .i 0, .i 0, .i 0, .i 0, .i 0, .i 0, .i 0, .i 0, .i 0, .i 0, .i 0, .i 0, .i 0, .i 0, .i 0, .i 0, .i 0, .i 0, .i 0, .i 0, .i 0, .i 0] := rfl
    by_cases hv : srtd (.mk po px py ps) D cs = true
    · refine ⟨_, ?_, .inl ⟨D, by simp [fnd, hD, hv], hd30, rfl⟩⟩
      rw [hv] at h45
      cases L with
      | nil =>
        simp only [rv, ro, List.nil_append, List.length_nil, show ((0 : Nat) : Int) = 0 from rfl, show (0 : Int) - 1 = -1 from rfl] at *
        simp [-List.reduceReplicate, r9l2, b9l2, hlt, h1, hwl, ints_len, fals_ints, hd30, h45]
      | cons a L =>
        simp only [rv, ro, List.cons_append, List.nil_append] at *
        simp only [List.length_cons, Int.natCast_add, show ((1 : Nat) : Int) = 1 from rfl] at *
        simp only [Int.add_sub_cancel] at h1 hwl
        simp [-List.reduceReplicate, r9l2, b9l2, hlt, h1, hwl, ints_len, fals_ints, hd30, h45]
    · have hv : srtd (.mk po px py ps) D cs = false := by simpa using hv
      have hfn : fnd (.mk po px py ps) cs L (k + 1) n = fnd (.mk po px py ps) cs L k (n + 1) := by simp [fnd, hD, hv]
      rw [hfn]
      refine ⟨r, ?_, hr⟩
      rw [hv] at h45
      cases L with
      | nil =>
        simp only [rv, ro, List.nil_append, List.length_nil, show ((0 : Nat) : Int) = 0 from rfl, show (0 : Int) - 1 = -1 from rfl] at *
        simp [-List.reduceReplicate, r9l2, b9l2, hlt, h1, hwl, ints_len, fals_ints, hd30, h45, hw, hn]
      | cons a L =>
        simp only [rv, ro, List.cons_append, List.nil_append] at *
        simp only [List.length_cons, Int.natCast_add, show ((1 : Nat) : Int) = 1 from rfl] at *
        simp only [Int.add_sub_cancel] at h1 hwl
        simp [-List.reduceReplicate, r9l2, b9l2, hlt, h1, hwl, ints_len, fals_ints, hd30, h45, hw, hn]
end Go.Am
end
section
set_option maxRecDepth 10000
set_option linter.unusedSimpArgs false
set_option linter.unusedVariables false
namespace Go.Am
open Go.Proofs
/-! both look through the same lists, in the same order -/
def asg : List Int → List Int → List (List Int)
  | [], ss => [ss]
  | f :: r, ss => asg r (ss.set f.toNat 0) ++ (asg r (ss.set f.toNat 1) ++ asg r (ss.set f.toNat 2))
theorem set_zero (ss : List Int) (i : Nat) (h : ss.getD i 0 = 0) : ss.set i 0 = ss := by
  apply List.ext_getElem?
  intro j
  rw [List.getElem?_set]
  by_cases e : i = j
  · subst e
    rw [List.getD_eq_getElem?_getD] at h
    by_cases hl : i < ss.length
    · rw [List.getElem?_eq_getElem hl] at h ⊢
      simp at h
      simp [hl, h]
    · simp [hl]
  · simp [e]
theorem getD_set_ne (ss : List Int) (i j : Nat) (v : Int) (h : i ≠ j) : (ss.set i v).getD j 0 = ss.getD j 0 := by
  simp [List.getD_eq_getElem?_getD, List.getElem?_set, h]
theorem gsr_asg (p : Pi) (cs : List Int) : ∀ (L ss : List Int), NmL L → (∀ f ∈ L, ss.getD f.toNat 0 = 0) →
    gsr p cs L ss = match (asg L ss).find? (fun s => srtd p s cs) with | some s => (true, s) | none => (false, ss)
  | [], ss, _, _ => by
    simp only [gsr, asg, List.find?]
    cases srtd p ss cs <;> rfl
  | f :: r, ss, hL, hz => by
    obtain ⟨hnd, hb⟩ := hL
    have hnr : NmL r := ⟨(List.nodup_cons.1 hnd).2, fun g hg => hb g (List.mem_cons_of_mem _ hg)⟩
    have hfr := (List.nodup_cons.1 hnd).1
    have hne : ∀ g ∈ r, f.toNat ≠ g.toNat := fun g hg e => by
      have h1 := hb f List.mem_cons_self
      have h2 := hb g (List.mem_cons_of_mem _ hg)
      have : f = g := by omega
      exact hfr (this ▸ hg)
    have hzr : ∀ v, ∀ g ∈ r, (ss.set f.toNat v).getD g.toNat 0 = 0 := fun v g hg => by
      rw [getD_set_ne _ _ _ _ (hne g hg)]
      exact hz g (List.mem_cons_of_mem _ hg)
    have e0 : ss.set f.toNat 0 = ss := set_zero ss _ (hz f List.mem_cons_self)
    have i0 := gsr_asg p cs r (ss.set f.toNat 0) hnr (hzr 0)
    have i1 := gsr_asg p cs r (ss.set f.toNat 1) hnr (hzr 1)
    have i2 := gsr_asg p cs r (ss.set f.toNat 2) hnr (hzr 2)
    simp only [asg, List.find?_append]
    simp only [gsr]
    cases h0 : (asg r (ss.set f.toNat 0)).find? (fun s => srtd p s cs) with
    | some s => rw [h0] at i0; simp [i0]
    | none =>
      rw [h0] at i0
      simp only [i0, Bool.false_eq_true, if_false, List.set_set]
      cases h1 : (asg r (ss.set f.toNat 1)).find? (fun s => srtd p s cs) with
      | some s => rw [h1] at i1; simp [i1]
      | none =>
        rw [h1] at i1
        simp only [i1, Bool.false_eq_true, if_false, List.set_set]
        cases h2 : (asg r (ss.set f.toNat 2)).find? (fun s => srtd p s cs) with
        | some s => rw [h2] at i2; simp [i2]
        | none =>
          rw [h2] at i2
          simp [i2, e0]
theorem p3_pos : ∀ n, 0 < p3 n
  | 0 => by decide
  | n + 1 => by have := p3_pos n; simp only [p3]; omega
theorem dg_cons (f : Int) (r : List Int) : ∀ (j n : Nat) (ss : List Int), dg (f :: r) (j + 1) n ss = (dg r j n ss).set f.toNat ((n / p3 j % 3 : Nat) : Int)
  | 0, n, ss => by simp [dg, gi, p3]
  | j + 1, n, ss => by
    have hg : gi (f :: r) ((j + 1 : Nat) : Int) = gi r j := by simp [gi]
    have h1 : dg (f :: r) (j + 1 + 1) n ss = dg (f :: r) (j + 1) (n / 3) (ss.set (gi (f :: r) ((j + 1 : Nat) : Int)).toNat ((n % 3 : Nat) : Int)) := rfl
    have h2 : dg r (j + 1) n ss = dg r j (n / 3) (ss.set (gi r j).toNat ((n % 3 : Nat) : Int)) := rfl
    rw [h1, hg, dg_cons f r j, h2]
    have : n / 3 / p3 j = n / p3 (j + 1) := by rw [Nat.div_div_eq_div_mul, p3, Nat.mul_comm]
    rw [this]
theorem dg_mod (r : List Int) : ∀ (m v n : Nat) (ss : List Int), n < p3 m → dg r m (v * p3 m + n) ss = dg r m n ss
  | 0, v, n, ss, h => by simp [dg]
  | m + 1, v, n, ss, h => by
    simp only [p3] at h
    have e : v * p3 (m + 1) + n = 3 * (v * p3 m) + n := by simp only [p3]; rw [← Nat.mul_assoc, Nat.mul_comm]
    have e1 : (3 * (v * p3 m) + n) % 3 = n % 3 := by omega
    have e2 : (3 * (v * p3 m) + n) / 3 = v * p3 m + n / 3 := by omega
    simp only [dg, e, e1, e2]
    exact dg_mod r m v (n / 3) _ (by omega)
theorem dg_set (r : List Int) (f w : Int) (hb : ∀ g ∈ r, g.toNat ≠ f.toNat) : ∀ (j n : Nat) (ss : List Int), j ≤ r.length → (dg r j n ss).set f.toNat w = dg r j n (ss.set f.toNat w)
  | 0, n, ss, _ => rfl
  | j + 1, n, ss, h => by
    have hm : gi r j ∈ r := by
      unfold gi
      rw [List.getD_eq_getElem?_getD, List.getElem?_eq_getElem (by omega : ((j : Int)).toNat < r.length)]
      exact List.getElem_mem _
    simp only [dg]
    rw [dg_set r f w hb j _ _ (by omega), List.set_comm _ _ (hb _ hm)]
theorem asg_dg : ∀ (L ss : List Int), NmL L → asg L ss = (List.range' 0 (p3 L.length)).map (fun n => dg L L.length n ss)
  | [], ss, _ => by simp [asg, p3, dg]
  | f :: r, ss, hL => by
    obtain ⟨hnd, hb⟩ := hL
    have hnr : NmL r := ⟨(List.nodup_cons.1 hnd).2, fun g hg => hb g (List.mem_cons_of_mem _ hg)⟩
    have hfr := (List.nodup_cons.1 hnd).1
    have hne : ∀ g ∈ r, g.toNat ≠ f.toNat := fun g hg e => by
      have h1 := hb f List.mem_cons_self
      have h2 := hb g (List.mem_cons_of_mem _ hg)
      have : f = g := by omega
      exact hfr (this ▸ hg)
    have hN := p3_pos r.length
    have blk : ∀ v : Nat, v < 3 → (List.range' (v * p3 r.length) (p3 r.length)).map (fun n => dg (f :: r) (f :: r).length n ss) = asg r (ss.set f.toNat (v : Int)) := by
      intro v hv
      rw [asg_dg r _ hnr]
      have : List.range' (v * p3 r.length) (p3 r.length) = (List.range' 0 (p3 r.length)).map (v * p3 r.length + ·) := by
        rw [List.map_add_range']; simp
      rw [this, List.map_map]
      apply List.map_congr_left
      intro n hn
      have hn : n < p3 r.length := by
        rw [List.mem_range'] at hn
        obtain ⟨i, hi, rfl⟩ := hn
        omega
      simp only [Function.comp, List.length_cons]
      rw [dg_cons, dg_mod r _ v n ss hn]
      have : (v * p3 r.length + n) / p3 r.length % 3 = v := by
        rw [Nat.mul_comm, Nat.mul_add_div hN, Nat.div_eq_of_lt hn]
        omega
      rw [this]
      exact dg_set r f v hne _ n ss (Nat.le_refl _)
    have hsplit : List.range' 0 (p3 (f :: r).length) = List.range' (0 * p3 r.length) (p3 r.length) ++ (List.range' (1 * p3 r.length) (p3 r.length) ++ List.range' (2 * p3 r.length) (p3 r.length)) := by
      have e : p3 (f :: r).length = p3 r.length + (p3 r.length + p3 r.length) := by simp only [List.length_cons, p3]; omega
      rw [e, ← List.range'_append_1, ← List.range'_append_1]
      simp [Nat.two_mul]
    rw [hsplit, List.map_append, List.map_append, blk 0 (by omega), blk 1 (by omega), blk 2 (by omega)]
    rfl
theorem fnd_find (p : Pi) (cs L : List Int) : ∀ (k n : Nat), fnd p cs L k n = ((List.range' n k).map (fun i => dg L L.length i zeros)).find? (fun s => srtd p s cs)
  | 0, n => rfl
  | k + 1, n => by
    simp only [fnd, List.range'_succ, List.map_cons, List.find?]
    rw [fnd_find p cs L k (n + 1)]
    cases srtd p (dg L L.length n zeros) cs <;> rfl
theorem zeros_getD (i : Nat) : zeros.getD i 0 = 0 := by
  simp only [zeros, List.getD_eq_getElem?_getD, List.getElem?_replicate]
  split <;> rfl
theorem gsr_fnd (p : Pi) (cs L : List Int) (hL : NmL L) : gsr p cs L zeros = match fnd p cs L (p3 L.length) 0 with | some s => (true, s) | none => (false, zeros) := by
  rw [gsr_asg p cs L zeros hL (fun f _ => zeros_getD _), asg_dg L zeros hL, fnd_find]
/-! the names that are free -/
theorem fl_mem (p : Pi) : ∀ (k : Nat) (n : Int), ∀ f ∈ fl p k n, n ≤ f ∧ f < n + k
  | 0, n, f, h => by simp [fl] at h
  | k + 1, n, f, h => by
    simp only [fl] at h
    split at h
    · rcases List.mem_cons.1 h with h | h
      · omega
      · have := fl_mem p k (n + 1) f h; omega
    · have := fl_mem p k (n + 1) f h; omega
theorem fl_nodup (p : Pi) : ∀ (k : Nat) (n : Int), (fl p k n).Nodup
  | 0, n => by simp [fl]
  | k + 1, n => by
    simp only [fl]
    split
    · refine List.nodup_cons.2 ⟨fun h => ?_, fl_nodup p k (n + 1)⟩
      have := fl_mem p k (n + 1) n h
      omega
    · exact fl_nodup p k (n + 1)
theorem freeL_nm (p : Pi) : NmL (freeL p) := by
  unfold freeL
  split
  · exact ⟨fl_nodup p 30 0, fun f hf => by have := fl_mem p 30 0 f hf; omega⟩
  · exact ⟨List.nodup_nil, fun f hf => by cases hf⟩
def piGuess (p : Pi) (cs : List Int) : Option (List Int) := if ok p = true ∧ (freeL p).length ≤ 6 ∧ nums cs 3 = true then fnd p cs (freeL p) (p3 (freeL p).length) 0 else none
def gres : Option (List Int) → PV
  | none => .tup [.nils, .b false]
  | some ss => .tup [.sl true 1 (ints ss), .b true]
theorem nums_srts' {xs : List Int} {n : Nat} (h : nums xs n = true) : Srts n xs := by
  unfold nums at h
  simp only [Bool.and_eq_true, decide_eq_true_eq, List.all_eq_true, srt] at h
  exact ⟨by omega, fun s hs => by have := h.2 s hs; omega⟩
theorem guess_nil (p : Pi) (hf : Fit p) (hs : shape p = true) (cs : List Int) (hc : Srts 3 cs) (ss : List Int) (h1 : Srts 30 ss) (L : Objs) (d : Nat) (hg : getO L d = some (.row 1 (ints ss))) :
    callI G 24 [enc p, .nils, .i 0, .own (0, d) 30, .sl false 1 (ints cs)] [L] = some (.b (srtd p ss cs), [L]) := by
  have h34 := eq43 p hf hs ss cs h1 hc
  have hs30 : ss.length = 30 := h1.1
  have hso := fun ob => setO_setO d ob (.row 1 (ints ss)) L
  have hsame := setO_same d _ L hg
  rw [callI_eq]
  obtain ⟨po, px, py, ps⟩ := p
  simp only [enc] at h34
  simp [body1_eq _ _ (gp 24) g24, c24, a24, enc, h34, hs30, fals_ints, ints_len, hg, hso, hsame]
theorem eqGuessI (p : Pi) (hf : Fit p) (cs : List Int) (hcl : cs.length ≤ 9223372036854775807) : callI G 9 [enc p, .sl false 1 (ints cs)] [] = some (gres (piGuess p cs), []) := by
  have h1 := eqFreeI p hf
  have h2 := eqOkI p hf
  have h3 := eqNumsI cs hcl 3
  have hL := freeL_nm p
  by_cases hok : ok p = true
  · by_cases hn : nums cs 3 = true
    · by_cases h6 : (freeL p).length ≤ 6
      · have hp : piGuess p cs = fnd p cs (freeL p) (p3 (freeL p).length) 0 := by simp [piGuess, hok, hn, h6]
        have hs := ok_shape' hok
        have l0 := loopG0 cs (freeL p) (enc p).cells (by intro g m; obtain ⟨po, px, py, ps⟩ := p; simp [enc]) h6 (freeL p).length 0 (by omega)
        obtain ⟨r, l2, hr⟩ := loopG2 p hf hs cs (freeL p) (nums_srts' hn) hL h6 (p3 (freeL p).length) (p3_le _ h6) (p3 (freeL p).length) 0 (by omega)
        have h6' : ¬ (6 : Int) < ((freeL p).length : Int) := by omega
        rw [hok] at h2
        rw [hn] at h3
        rw [hp, callI_eq]
        obtain ⟨po, px, py, ps⟩ := p
        generalize freeL (.mk po px py ps) = L at *
        simp only [enc, PV.cells] at h1 h2 l0 l2 hr
        simp only [p3, show ((1 : Nat) : Int) = 1 from rfl, show ((0 : Nat) : Int) = 0 from rfl] at l0 l2
        cases L with
        | nil =>
          simp only [fv, rv, ro, List.length_nil, show ((0 : Nat) : Int) = 0 from rfl] at h1 l0 l2 hr
          rcases hr with ⟨ss, e, hss, rfl⟩ | ⟨e, rfl⟩
          · simp only [p3, show ((1 : Nat) : Int) = 1 from rfl] at e l0 l2
            simp [body1_eq _ _ (gp 9) g9, c9, a9, enc, h1, h2, h3, l0, l2, e, gres, ints_len, hss, p3]
          · simp only [p3, show ((1 : Nat) : Int) = 1 from rfl] at e l0 l2
            simp [body1_eq _ _ (gp 9) g9, c9, a9, enc, h1, h2, h3, l0, l2, e, gres, p3]
        | cons a L =>
          simp only [fv, rv, ro] at h1 l0 l2 hr
          simp only [List.length_cons, Int.natCast_add, show ((1 : Nat) : Int) = 1 from rfl] at h6' l0 l2 hr
          rcases hr with ⟨ss, e, hss, rfl⟩ | ⟨e, rfl⟩
          · simp [body1_eq _ _ (gp 9) g9, c9, a9, enc, h1, h2, h3, l0, l2, e, gres, ints_len, hss, h6']
          · simp [body1_eq _ _ (gp 9) g9, c9, a9, enc, h1, h2, h3, l0, l2, e, gres, ints_len, h6']
      · have hp : piGuess p cs = none := by simp [piGuess, h6]
        have h6' : (6 : Int) < ((freeL p).length : Int) := by omega
        rw [hok] at h2
        rw [hn] at h3
        rw [hp, callI_eq]
        obtain ⟨po, px, py, ps⟩ := p
        generalize freeL (.mk po px py ps) = L at *
        simp only [enc] at h1 h2
        cases L with
        | nil => simp at h6
        | cons a L =>
          simp only [fv] at h1
          simp only [List.length_cons, Int.natCast_add, show ((1 : Nat) : Int) = 1 from rfl] at h6'
          simp [body1_eq _ _ (gp 9) g9, c9, a9, enc, h1, h2, h3, gres, ints_len, h6']
    · have hp : piGuess p cs = none := by simp [piGuess, hn]
      have hn : nums cs 3 = false := by simpa using hn
      rw [hok] at h2
      rw [hn] at h3
      rw [hp, callI_eq]
      obtain ⟨po, px, py, ps⟩ := p
      generalize freeL (.mk po px py ps) = L at *
      simp only [enc] at h1 h2
      cases L with
      | nil =>
        simp only [fv] at h1
        simp [body1_eq _ _ (gp 9) g9, c9, a9, enc, h1, h2, h3, gres]
      | cons a L =>
        simp only [fv] at h1
        simp [body1_eq _ _ (gp 9) g9, c9, a9, enc, h1, h2, h3, gres, ints_len]
  · have hp : piGuess p cs = none := by simp [piGuess, hok]
    have hok : ok p = false := by simpa using hok
    have hfl : freeL p = [] := by simp [freeL, hok]
    rw [hok] at h2
    rw [hfl] at h1
    rw [hp, callI_eq]
    obtain ⟨po, px, py, ps⟩ := p
    simp only [enc, fv] at h1 h2
    simp [body1_eq _ _ (gp 9) g9, c9, a9, enc, h1, h2, gres]
end Go.Am
end
section
set_option maxRecDepth 10000
set_option linter.unusedSimpArgs false
set_option linter.unusedVariables false
namespace Go.Am
open Go.Proofs
theorem eqGuessS (p : Pi) (hf : Fit p) (cs : List Int) (hcl : cs.length ≤ 9223372036854775807) : callI G 6 [enc p, .sl false 1 (ints cs)] [] = some (gres (piGuess p cs), []) := by
  have h1 := eqFreeS p hf
  have h2 := eqOkS p hf
  have h3 := eqNumsS cs hcl 3
  have hL := freeL_nm p
  have hz : List.replicate 30 (PV.i 0) = ints zeros := ints_rep 30
  have hz30 : zeros.length = 30 := by simp [zeros]
  by_cases hok : ok p = true
  · have hs := ok_shape' hok
    have hlen : (freeL p).length ≤ 30 := by
      unfold freeL
      rw [if_pos hok]
      exact fl_len p 30 0
    by_cases h6 : (freeL p).length ≤ 6
    · by_cases hn : nums cs 3 = true
      · have hp : piGuess p cs = fnd p cs (freeL p) (p3 (freeL p).length) 0 := by simp [piGuess, hok, hn, h6]
        have hc := nums_srts' hn
        have hg := gsr_fnd p cs (freeL p) hL
        have hS30 := (gsr_srts p cs (freeL p) zeros zeros_srts).1
        have hge := fun (Lo : Objs) (h : getO Lo 10 = some (.row 1 (ints zeros))) => guess_eq p hf hs cs hc (freeL p) [] hL.2 (by simpa using hlen) zeros zeros_srts [Lo] (0, 10) (by simp) (by simpa [getS] using h)
        have hgn := fun (Lo : Objs) (h : getO Lo 10 = some (.row 1 (ints zeros))) => guess_nil p hf hs cs hc zeros zeros_srts Lo 10 h
        have h6' : ¬ (6 : Int) < ((freeL p).length : Int) := by omega
        rw [hok] at h2
        rw [hn] at h3
        rw [hp, callI_eq]
        obtain ⟨po, px, py, ps⟩ := p
        generalize freeL (.mk po px py ps) = L at *
        generalize zeros = Z at *
        simp only [enc, setS, List.nil_append, List.length_nil, show ((0 : Nat) : Int) = 0 from rfl] at h1 h2 hge hgn
        cases L with
        | nil =>
          simp only [fv, gsr] at h1 hg
          simp only [List.length_nil, p3] at hg ⊢
          cases hfd : fnd (.mk po px py ps) cs [] 1 0 with
          | none =>
            rw [hfd] at hg
            simp only [Prod.mk.injEq] at hg
            rw [hg.1] at hgn
            simp [-List.reduceReplicate, body1_eq _ _ (gp 6) g6, c6, a6, enc, h1, h2, h3, gres, hz, hgn, ints_len, fals_ints]
          | some ss =>
            rw [hfd] at hg
            simp only [Prod.mk.injEq] at hg
            rw [hg.1] at hgn
            rw [← hg.2]
            simp [-List.reduceReplicate, body1_eq _ _ (gp 6) g6, c6, a6, enc, h1, h2, h3, gres, hz, hgn, ints_len, fals_ints, hz30]
        | cons a L =>
          have hfv : fv (a :: L) = .sl true 1 (ints (a :: L)) := rfl
          rw [hfv] at h1
          generalize a :: L = L at *
          cases hfd : fnd (.mk po px py ps) cs L (p3 L.length) 0 with
          | none =>
            rw [hfd] at hg
            rw [hg] at hge
            simp [-List.reduceReplicate, body1_eq _ _ (gp 6) g6, c6, a6, enc, h1, h2, h3, gres, hz, hge, ints_len, fals_ints, h6']
          | some ss =>
            rw [hfd] at hg
            rw [hg] at hge hS30
            simp only at hS30
            simp [-List.reduceReplicate, body1_eq _ _ (gp 6) g6, c6, a6, enc, h1, h2, h3, gres, hz, hge, ints_len, fals_ints, h6', hS30]
      · have hp : piGuess p cs = none := by simp [piGuess, hn]
        have hn : nums cs 3 = false := by simpa using hn
        have h6' : ¬ (6 : Int) < ((freeL p).length : Int) := by omega
        rw [hok] at h2
        rw [hn] at h3
        rw [hp, callI_eq]
        obtain ⟨po, px, py, ps⟩ := p
        generalize freeL (.mk po px py ps) = L at *
        simp only [enc] at h1 h2
        cases L with
        | nil =>
          simp only [fv] at h1
          simp [body1_eq _ _ (gp 6) g6, c6, a6, enc, h1, h2, h3, gres]
        | cons a L =>
          simp only [fv] at h1
          simp only [List.length_cons, Int.natCast_add, show ((1 : Nat) : Int) = 1 from rfl] at h6'
          simp [body1_eq _ _ (gp 6) g6, c6, a6, enc, h1, h2, h3, gres, ints_len, h6']
    · have hp : piGuess p cs = none := by simp [piGuess, h6]
      have h6' : (6 : Int) < ((freeL p).length : Int) := by omega
      rw [hok] at h2
      rw [hp, callI_eq]
      obtain ⟨po, px, py, ps⟩ := p
      generalize freeL (.mk po px py ps) = L at *
      simp only [enc] at h1 h2
      cases L with
      | nil => simp at h6
      | cons a L =>
        simp only [fv] at h1
        simp only [List.length_cons, Int.natCast_add, show ((1 : Nat) : Int) = 1 from rfl] at h6'
        simp [body1_eq _ _ (gp 6) g6, c6, a6, enc, h1, h2, gres, ints_len, h6']
  · have hp : piGuess p cs = none := by simp [piGuess, hok]
    have hok : ok p = false := by simpa using hok
    have hfl : freeL p = [] := by simp [freeL, hok]
    rw [hok] at h2
    rw [hfl] at h1
    rw [hp, callI_eq]
    obtain ⟨po, px, py, ps⟩ := p
    simp only [enc, fv] at h1 h2
    simp [body1_eq _ _ (gp 6) g6, c6, a6, enc, h1, h2, gres]
theorem eqMarkI' (xs : List Int) (hl : xs.length ≤ 1000000000) (L : Objs) (d : Nat) (k : Int) (hg : getO L d = some (.row 1 (ints xs))) (hk0 : 0 ≤ k) (hk : k ≤ 1000000000) :
    callI G 13 [.own (0, d) xs.length, .i k] [L] = some (.i (k + xs.length), [setO L d (.row 1 (ints (marks k xs.length)))]) := by
  obtain ⟨o', hlp, h1, h2⟩ := loopMarkI (0, d) xs.length xs [] k [L] (by simp) (by simpa [getS] using hg) (by simp) (by omega) hk0 (by omega) 0 (by simp)
  have ho : o' = [setO L d (.row 1 (ints (marks k xs.length)))] := by
    by_cases hx : xs = []
    · subst hx
      rw [h1 rfl]
      simp only [List.length_nil, marks]
      rw [setO_same d _ L hg]
    · rw [h2 hx]; simp [setS]
  rw [ho] at hlp
  rw [callI_eq]
  simp [body1_eq _ _ (gp 13) g13, c13, a13, hlp]
theorem fnd_len (p : Pi) (cs L : List Int) : ∀ (k n : Nat) (ss : List Int), fnd p cs L k n = some ss → ss.length = 30
  | 0, n, ss, h => by cases h
  | k + 1, n, ss, h => by
    simp only [fnd] at h
    split at h
    · simp only [Option.some.injEq] at h
      rw [← h]; exact (dg_srts L _ n zeros zeros_srts).1
    · exact fnd_len p cs L k (n + 1) ss h
theorem lawPiGuess (p : Pi) (hf : Fit p) (cs : List Int) (hcl : cs.length ≤ 9223372036854775807) : callI G 3 [enc p, .sl false 1 (ints cs)] [] = some (.b true, []) := by
  have h9 := eq9 p hf 1048576 (by omega) (by omega)
  rw [callI_eq]
  by_cases c1 : (1048576 : Int) < cs.length
  · obtain ⟨o, x, y, ps⟩ := p
    simp [body1_eq _ _ (gp 3) g3, c3, a3, enc, ints_len, c1]
  by_cases hs : szPi p 1048576 < 0
  · obtain ⟨o, x, y, ps⟩ := p
    simp only [enc] at h9
    simp [body1_eq _ _ (gp 3) g3, c3, a3, enc, ints_len, c1, h9, hs]
  · have h11 := eq11 p (szPi_small p 1048576 (by omega) (by omega) (by omega))
    have hcn := szPi_cnt p 1048576 (by omega) (by omega)
    have t1 := eqToIntS cs (by omega)
    have hE1 := eqEqIntS cs hcl
    have hS := eqGuessS p hf cs hcl
    have hI := eqGuessI p hf cs hcl
    have h13 := eq13 p hf
    obtain ⟨o, x, y, ps⟩ := p
    have hcp := cnts_pos ps
    simp only [cnt] at hcn
    have hMP := fun Lo h => eqMarkPi ps Lo 34 o x y 1 h (by omega) (by omega)
    have hMC := fun Lo h => eqMarkI' cs (by omega) Lo 36 (1 + 3 * cnts ps) h (by omega) (by omega)
    have hk : ¬ (1 + 3 * cnts ps + (cs.length : Int) < 0) := by omega
    cases hG : piGuess (.mk o x y ps) cs with
    | none =>
      rw [hG] at hS hI
      simp only [enc, encU, gres] at h9 h11 hS hI h13
      simp [body1_eq _ _ (gp 3) g3, c3, a3, enc, ints_len, fals_ints, c1, h9, hs, h11, t1, hE1, hS, hI, h13, fals_encU, encUs_len, eqEqI0, hMP, hMC, hk, eqMarkI0, eqHeldI0]
    | some L =>
      have hlen : L.length = 30 := by
        unfold piGuess at hG
        split at hG
        · exact fnd_len _ _ _ _ _ _ hG
        · cases hG
      rw [hG] at hS hI
      have hE := eqEqIntS L (by omega)
      have hM := fun Lo h => eqMarkI' L (by omega) Lo 40 1 h (by omega) (by omega)
      have hH := eqHeldI L.length 1 (by omega) (by omega) (by omega)
      have hk2 : ¬ (1 + (L.length : Int) < 0) := by omega
      simp only [hlen] at hM hH hk2
      simp only [enc, encU, gres] at h9 h11 hS hI h13
      simp [body1_eq _ _ (gp 3) g3, c3, a3, enc, ints_len, fals_ints, c1, h9, hs, h11, t1, hE1, hS, hI, h13, fals_encU, encUs_len, hE, hMP, hMC, hk, hM, hH, hk2, marks_len, hlen]
end Go.Am
end
