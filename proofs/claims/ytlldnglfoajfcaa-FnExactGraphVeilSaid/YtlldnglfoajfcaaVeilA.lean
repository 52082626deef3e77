/- What GraphVeil of both sides makes. -/
import Derived.Test.YtlldnglfoajfcaaGsD
section
set_option maxRecDepth 10000
set_option maxHeartbeats 1000000
set_option linter.unusedSimpArgs false
set_option linter.unusedVariables false
namespace Go.Am
open Go.Proofs Go.Sort Go.Shelf
/-! slices.IndexFunc and slices.DeleteFunc at moves, with a closure over one box of an outer frame -/
def CloOK (cf : Nat) (cid : Id) (B : List PV) (F : Mv → Bool) : Prop :=
  ∀ (o : Stack) (x : Mv), cid.1 < o.length → getS o cid = some (.box B) → callI G cf [mvP x, .ref cid 1 0 0] o = some (.b (F x), o)
theorem loopIx (cf : Nat) (cid : Id) (B : List PV) (F : Mv → Bool) (hc : CloOK cf cid B F) (id : Id) (l : List Mv) (o : Stack) (hid : id.1 < o.length) (hg : getS o id = some (.row 2 (l.map mvP))) (hcid : cid.1 < o.length) (hB : getS o cid = some (.box B)) (hN : l.length ≤ 4611686018427387904) : ∀ (rest done : List Mv), l = done ++ rest →
    (∃ a x b, rest = a ++ x :: b ∧ (∀ y ∈ a, F y = false) ∧ F x = true ∧ loopI G [0, 1, 7, 8] [] c143l0 ⟨[(0, .own id l.length), (1, .clo cf [.ref cid 1 0 0]), (7, .i l.length), (8, .i done.length)], [], o⟩ = some (.ret, ⟨[(4, .i (done ++ a).length)], [], o⟩)) ∨
    ((∀ y ∈ rest, F y = false) ∧ loopI G [0, 1, 7, 8] [] c143l0 ⟨[(0, .own id l.length), (1, .clo cf [.ref cid 1 0 0]), (7, .i l.length), (8, .i done.length)], [], o⟩ = some (.exit 0, ⟨[(0, .own id l.length), (1, .clo cf [.ref cid 1 0 0]), (7, .i l.length), (8, .i l.length), (9, .b false)], [], o⟩))
  | [], done, hd => by
    rw [List.append_nil] at hd
    subst hd
    have hne : ¬ id.1 = o.length := by omega
    have hne2 : ¬ cid.1 = o.length := by omega
    refine .inr ⟨fun y hy => (by cases hy), ?_⟩
    rw [loopI_eq]
    simp [-St.get, -St.set, r143l0, b143l0, hne, hne2]
  | x :: rest, done, hd => by
    have hne : ¬ id.1 = o.length := by omega
    have hne2 : ¬ cid.1 = o.length := by omega
    have hget : ∀ r l', St.get ⟨r, l', o⟩ id = some (.row 2 (l.map mvP)) := fun r l' => by rw [get_low hid, hg]
    have hgetc : ∀ r l', St.get ⟨r, l', o⟩ cid = some (.box B) := fun r l' => by rw [get_low hcid, hB]
    have hll : l.length = done.length + (rest.length + 1) := by rw [hd]; simp
    have hlt : (done.length : Int) < l.length := by omega
    have hlt2 : done.length < l.length := by omega
    have hw : IntKind.i64.wrap ((done.length : Int) + 1) = (done.length : Int) + 1 := wr (by omega)
    have hat : nth (l.map mvP) done.length = some (mvP x) := by rw [hd]; exact mv_at done x rest
    have hml : (l.map mvP).length = l.length := by simp
    have hcx := hc (o ++ [[]]) x (by simp; omega) (by rw [getS_app _ _ _ hcid]; exact hB)
    simp only [mvP] at hat hcx
    cases hF : F x with
    | true =>
      rw [hF] at hcx
      refine .inl ⟨[], x, rest, rfl, (fun y hy => by cases hy), hF, ?_⟩
      generalize hM : l.map mvP = M at hat hml hget
      rw [loopI_eq]
      simp [-St.get, -St.set, r143l0, b143l0, hne, hne2, hget, hgetc, hlt, hlt2, hml, hat, hcx]
    | false =>
      rw [hF] at hcx
      have ih := loopIx cf cid B F hc id l o hid hg hcid hB hN rest (done ++ [x]) (by simpa using hd)
      simp only [List.length_append, List.length_cons, List.length_nil, Int.natCast_add, show ((0 + 1 : Nat) : Int) = 1 from rfl] at ih
      rcases ih with ⟨a, z, b, h1, h2, h3, h4⟩ | ⟨h1, h2⟩
      · refine .inl ⟨x :: a, z, b, by rw [h1]; rfl, fun y hy => ?_, h3, ?_⟩
        · rcases List.mem_cons.1 hy with rfl | hy
          · exact hF
          · exact h2 y hy
        · generalize hM : l.map mvP = M at hat hml hget
          rw [loopI_eq]
          simp [-St.get, -St.set, r143l0, b143l0, hne, hne2, hget, hgetc, hlt, hlt2, hml, hat, hcx, hw]
          simpa [Int.add_assoc, Int.add_comm 1] using h4
      · refine .inr ⟨fun y hy => ?_, ?_⟩
        · rcases List.mem_cons.1 hy with rfl | hy
          · exact hF
          · exact h1 y hy
        · generalize hM : l.map mvP = M at hat hml hget
          rw [loopI_eq]
          simp [-St.get, -St.set, r143l0, b143l0, hne, hne2, hget, hgetc, hlt, hlt2, hml, hat, hcx, hw]
          simpa using h2
theorem eqIx (cf : Nat) (cid : Id) (B : List PV) (F : Mv → Bool) (hc : CloOK cf cid B F) (id : Id) (l : List Mv) (o : Stack) (hid : id.1 < o.length) (hg : getS o id = some (.row 2 (l.map mvP))) (hcid : cid.1 < o.length) (hB : getS o cid = some (.box B)) (hN : l.length ≤ 4611686018427387904) :
    (∃ a x b, l = a ++ x :: b ∧ (∀ y ∈ a, F y = false) ∧ F x = true ∧ callI G 143 [.own id l.length, .clo cf [.ref cid 1 0 0]] o = some (.i a.length, o)) ∨
    ((∀ y ∈ l, F y = false) ∧ callI G 143 [.own id l.length, .clo cf [.ref cid 1 0 0]] o = some (.i (-1), o)) := by
  have hne : ¬ id.1 = o.length := by omega
  have hne2 : ¬ cid.1 = o.length := by omega
  have hget : ∀ r l', St.get ⟨r, l', o⟩ id = some (.row 2 (l.map mvP)) := fun r l' => by rw [get_low hid, hg]
  have hml : (l.map mvP).length = l.length := by simp
  rcases loopIx cf cid B F hc id l o hid hg hcid hB hN l [] rfl with ⟨a, x, b, h1, h2, h3, h4⟩ | ⟨h1, h2⟩
  · refine .inl ⟨a, x, b, h1, h2, h3, ?_⟩
    rw [List.nil_append] at h4
    simp only [List.length_nil, show ((0 : Nat) : Int) = 0 from rfl] at h4
    generalize hM : l.map mvP = M at hml hget
    rw [callI_eq]
    simp [-St.get, -St.set, body1_eq _ _ (gp 143) g143, c143, a143, hne, hne2, hget, hml, hid, hcid, h4]
  · refine .inr ⟨h1, ?_⟩
    simp only [List.length_nil, show ((0 : Nat) : Int) = 0 from rfl] at h2
    generalize hM : l.map mvP = M at hml hget
    rw [callI_eq]
    simp [-St.get, -St.set, body1_eq _ _ (gp 143) g143, c143, a143, hne, hne2, hget, hml, hid, hcid, h2]
end Go.Am
end
section
set_option maxRecDepth 10000
set_option maxHeartbeats 1000000
set_option linter.unusedSimpArgs false
set_option linter.unusedVariables false
namespace Go.Am
open Go.Proofs Go.Sort Go.Shelf
theorem getS_ne {o : Stack} {id cid : Id} {R : OB} (h : id.1 < o.length) (hn : cid ≠ id) : getS (setS o id R) cid = getS o cid := by
  rw [← gt_getS, gt_setS h, ← gt_getS]
  simp [upd, hn]
theorem loopDl (cf : Nat) (cid : Id) (B : List PV) (F : Mv → Bool) (hc : CloOK cf cid B F) (id : Id) (hci : cid ≠ id) (N : Nat) (hN : N ≤ 4611686018427387904) : ∀ (rest K M : List Mv) (o : Stack), id.1 < o.length → getS o id = some (.row 2 ((K ++ (M ++ rest)).map mvP)) → cid.1 < o.length → getS o cid = some (.box B) → M ≠ [] → N = K.length + M.length + rest.length →
    ∃ Z : List Mv, Z.length = N - (K ++ rest.filter (fun y => !F y)).length ∧ loopI G [0, 1, 5, 6] [] c94l0 ⟨[(0, .own id N), (1, .clo cf [.ref cid 1 0 0]), (5, .i K.length), (6, .i (K.length + M.length))], [], o⟩ =
      some (.exit 0, ⟨[(0, .own id N), (1, .clo cf [.ref cid 1 0 0]), (5, .i (K ++ rest.filter (fun y => !F y)).length), (6, .i N), (19, .b false)], [], setS o id (.row 2 (((K ++ rest.filter (fun y => !F y)) ++ Z).map mvP))⟩)
  | [], K, M, o, hid, hg, hcid, hB, hM, hl => by
    have hne : ¬ id.1 = o.length := by omega
    have hne2 : ¬ cid.1 = o.length := by omega
    simp only [List.append_nil, List.length_nil, Nat.add_zero] at hg hl
    refine ⟨M, by simp; omega, ?_⟩
    have e2 : setS o id (.row 2 (((K ++ ([] : List Mv).filter (fun y => !F y)) ++ M).map mvP)) = o := setS_same o id _ (by simpa using hg)
    have hget : ∀ r l', St.get ⟨r, l', o⟩ id = some (.row 2 ((K ++ M).map mvP)) := fun r l' => by rw [get_low hid, hg]
    have hml : ((K ++ M).map mvP).length = N := by simp; omega
    have hki : (K.length : Int) + M.length = N := by omega
    rw [e2, hki]
    generalize hX : (K ++ M).map mvP = X at hget hml
    rw [loopI_eq]
    simp [-St.get, -St.set, r94l0, b94l0, hne, hne2, hget, hml]
  | y :: rest, K, M, o, hid, hg, hcid, hB, hM, hl => by
    simp only [List.length_cons] at hl
    have hne : ¬ id.1 = o.length := by omega
    have hne2 : ¬ cid.1 = o.length := by omega
    have hget : ∀ r l', St.get ⟨r, l', o⟩ id = some (.row 2 ((K ++ (M ++ y :: rest)).map mvP)) := fun r l' => by rw [get_low hid, hg]
    have hgetc : ∀ r l', St.get ⟨r, l', o⟩ cid = some (.box B) := fun r l' => by rw [get_low hcid, hB]
    have hset : ∀ r l' R, St.set ⟨r, l', o⟩ id R = ⟨r, l', setS o id R⟩ := fun r l' R => set_low hid
    have hml : ((K ++ (M ++ y :: rest)).map mvP).length = N := by simp; omega
    have hM0 : 0 < M.length := List.length_pos_iff.2 hM
    have hlt : (K.length : Int) + M.length < N := by omega
    have hltK : (K.length : Int) < N := by omega
    have hge : (0 : Int) ≤ (K.length : Int) + M.length := by omega
    have htn : ((K.length : Int) + M.length).toNat = K.length + M.length := by omega
    have hw : IntKind.i64.wrap ((K.length : Int) + M.length + 1) = (K.length : Int) + M.length + 1 := wr (by omega)
    have hwK : IntKind.i64.wrap ((K.length : Int) + 1) = (K.length : Int) + 1 := wr (by omega)
    have hat : nth ((K ++ (M ++ y :: rest)).map mvP) (K.length + M.length) = some (mvP y) := by
      have := mv_at (K ++ M) y rest
      simpa using this
    have hcx := hc (o ++ [[]]) y (by simp; omega) (by rw [getS_app _ _ _ hcid]; exact hB)
    simp only [mvP] at hat hcx
    cases hF : F y with
    | true =>
      rw [hF] at hcx
      obtain ⟨Z, hZ, hn⟩ := loopDl cf cid B F hc id hci N hN rest K (M ++ [y]) o hid (by simpa using hg) hcid hB (by simp) (by simp; omega)
      have hfl : (y :: rest).filter (fun y => !F y) = rest.filter (fun y => !F y) := by simp [hF]
      rw [hfl]
      refine ⟨Z, hZ, ?_⟩
      simp only [List.length_append, List.length_cons, List.length_nil, Int.natCast_add, show ((0 + 1 : Nat) : Int) = 1 from rfl] at hn ⊢
      generalize hX : (K ++ (M ++ y :: rest)).map mvP = X at hget hml hat
      generalize hR : OB.row 2 ((K ++ rest.filter (fun y => !F y) ++ Z).map mvP) = R at hn ⊢
      rw [loopI_eq]
      simp [-St.get, -St.set, r94l0, b94l0, hne, hne2, hget, hgetc, hml, hlt, hge, htn, hat, hcx, hw, get_own, set_own]
      simpa [Int.add_assoc] using hn
    | false =>
      rw [hF] at hcx
      obtain ⟨m, M', hMc⟩ : ∃ m M', M = m :: M' := by cases M with | nil => exact absurd rfl hM | cons m M' => exact ⟨m, M', rfl⟩
      have hrow : ((K ++ (M ++ y :: rest)).map mvP).set K.length (mvP y) = ((K ++ [y]) ++ ((M' ++ [y]) ++ rest)).map mvP := by
        rw [hMc]
        simp
      have hatK : nth ((K ++ (M ++ y :: rest)).map mvP) K.length = some (mvP m) := by rw [hMc]; exact mv_at K m (M' ++ y :: rest)
      have hMl : M.length = M'.length + 1 := by rw [hMc]; simp
      obtain ⟨Z, hZ, hn⟩ := loopDl cf cid B F hc id hci N hN rest (K ++ [y]) (M' ++ [y]) (setS o id (.row 2 (((K ++ [y]) ++ ((M' ++ [y]) ++ rest)).map mvP))) (by rw [setS_len]; exact hid) (by rw [getS_setS hid]) (by rw [setS_len]; exact hcid) (by rw [getS_ne hid hci]; exact hB) (by simp) (by simp; omega)
      rw [setS_setS] at hn
      have hfl : K ++ (y :: rest).filter (fun y => !F y) = (K ++ [y]) ++ rest.filter (fun y => !F y) := by simp [hF]
      rw [hfl]
      refine ⟨Z, hZ, ?_⟩
      have hkk : ((K ++ [y]).length : Int) + ((M' ++ [y]).length : Int) = (K.length : Int) + M.length + 1 := by simp; omega
      have hk1 : ((K ++ [y]).length : Int) = (K.length : Int) + 1 := by simp
      rw [hkk, hk1] at hn
      simp only [mvP] at hrow hatK
      generalize hX : (K ++ (M ++ y :: rest)).map mvP = X at hget hml hat hrow hatK
      generalize hR : OB.row 2 ((K ++ [y] ++ rest.filter (fun y => !F y) ++ Z).map mvP) = R at hn ⊢
      generalize hX2 : (K ++ [y] ++ (M' ++ [y] ++ rest)).map mvP = X2 at hrow hn
      rw [loopI_eq]
      simp [-St.get, -St.set, r94l0, b94l0, hne, hne2, hget, hgetc, hset, hml, hlt, hltK, hge, htn, hat, hatK, hcx, hw, hwK, unAgg, hrow, setS_len, get_own, set_own]
      simpa [Int.add_assoc] using hn
end Go.Am
end
section
set_option maxRecDepth 10000
set_option maxHeartbeats 1000000
set_option linter.unusedSimpArgs false
set_option linter.unusedVariables false
namespace Go.Am
open Go.Proofs Go.Sort Go.Shelf
theorem filter_all {F : Mv → Bool} : ∀ {l : List Mv}, (∀ y ∈ l, F y = false) → l.filter (fun y => !F y) = l
  | [], _ => rfl
  | x :: l, h => by
    have h1 := h x List.mem_cons_self
    simp [h1]
    intro a b hab
    exact h (a, b) (List.mem_cons_of_mem _ hab)
theorem eqDelete (cf : Nat) (cid : Id) (B : List PV) (F : Mv → Bool) (hc : CloOK cf cid B F) (id : Id) (hci : cid ≠ id) (l : List Mv) (o : Stack) (hid : id.1 < o.length) (hg : getS o id = some (.row 2 (l.map mvP))) (hcid : cid.1 < o.length) (hB : getS o cid = some (.box B)) (hN : l.length ≤ 4611686018427387904) :
    (l.filter (fun y => !F y) = l ∧ callI G 94 [.own id l.length, .clo cf [.ref cid 1 0 0]] o = some (.own id l.length, o)) ∨
    callI G 94 [.own id l.length, .clo cf [.ref cid 1 0 0]] o = some (.sl true 2 ((l.filter (fun y => !F y)).map mvP), setS o id .dead) := by
  have hne : ¬ id.1 = o.length := by omega
  have hne2 : ¬ cid.1 = o.length := by omega
  have hix := eqIx cf cid B F hc id l (o ++ [[]]) (by simp; omega) (by rw [getS_app _ _ _ hid]; exact hg) (by simp; omega) (by rw [getS_app _ _ _ hcid]; exact hB) hN
  rw [callI_eq]
  rcases hix with ⟨a, x, b, h1, h2, h3, h4⟩ | ⟨h1, h2⟩
  · refine .inr ?_
    have hll : l.length = a.length + (b.length + 1) := by rw [h1]; simp
    obtain ⟨Z, hZ, hn⟩ := loopDl cf cid B F hc id hci l.length hN b a [x] o hid (by rw [hg, h1]; simp) hcid hB (by simp) (by simp; omega)
    have hK : a ++ b.filter (fun y => !F y) = l.filter (fun y => !F y) := by
      rw [h1, List.filter_append, filter_all h2]; simp [h3]
    rw [hK] at hZ hn
    have hKl : (l.filter (fun y => !F y)).length ≤ l.length := List.length_filter_le _ _
    generalize hKK : l.filter (fun y => !F y) = K at hZ hn hKl ⊢
    obtain ⟨o2, ho2⟩ : ∃ o2, setS o id (.row 2 ((K ++ Z).map mvP)) = o2 := ⟨_, rfl⟩
    rw [ho2] at hn
    have hl2 : o2.length = o.length := by rw [← ho2, setS_len]
    have hget3 : ∀ r l, St.get ⟨r, l, o2⟩ id = some (.row 2 ((K ++ Z).map mvP)) := fun r l => by rw [← ho2, get_low (by rw [setS_len]; exact hid), getS_setS hid]
    have hset3 : ∀ r l R, St.set ⟨r, l, o2⟩ id R = ⟨r, l, setS o id R⟩ := fun r l R => by rw [← ho2, set_low (by rw [setS_len]; exact hid), setS_setS]
    have hset4 : ∀ r l R R', St.set ⟨r, l, setS o id R'⟩ id R = ⟨r, l, setS o id R⟩ := fun r l R R' => by rw [set_low (by rw [setS_len]; exact hid), setS_setS]
    have hget4 : ∀ r l R, St.get ⟨r, l, setS o id R⟩ id = some R := fun r l R => by rw [get_low (by rw [setS_len]; exact hid), getS_setS hid]
    have hKZ : K.length + Z.length = l.length := by omega
    have hKN : l.length = K.length + (l.length - K.length) := by omega
    have hKi : (K.length : Int) ≤ l.length := by omega
    have hw : IntKind.i64.wrap ((a.length : Int) + 1) = (a.length : Int) + 1 := wr (by omega)
    have ha1 : ¬ ((a.length : Int) = -1) := by omega
    simp only [List.length_cons, List.length_nil, Nat.zero_add, show ((1 : Nat) : Int) = 1 from rfl] at hn
    generalize l.length = N at hn h4 hKl hKZ hKN hKi hll hN ⊢
    simp [-St.get, -St.set, body1_eq _ _ (gp 94) g94, c94, a94, hne, hne2, hid, hcid, h4, ha1, hw, hn, hl2, hget3, hset3, hset4, hget4, hKZ, hKi, setS_len, get_setS_top, set_setS_top, get_own, set_own]
    exact hKN
  · refine .inl ⟨filter_all h1, ?_⟩
    simp [-St.get, -St.set, body1_eq _ _ (gp 94) g94, c94, a94, hne, hne2, hid, hcid, h2]
/-! the name of an action; what is hidden -/
def nameI (a : Int) : Int := IntKind.i64.wrap ((if a < IntKind.i64.wrap (0 - a) then IntKind.i64.wrap (0 - a) else a) - 1)
theorem eqNameI (a : Int) : callI G 97 [.i a] [] = some (.i (nameI a), []) := by
  rw [callI_eq]
  simp [body1_eq _ _ (gp 97) g97, c97, a97, nameI]
theorem eqNameS (a : Int) : callI G 92 [.i a] [] = some (.i (nameI a), []) := by
  rw [callI_eq]
  simp [body1_eq _ _ (gp 92) g92, c92, a92, nameI]
def nameOk (n : Int) : Bool := decide (0 ≤ n) && decide (n < 4)
theorem eqNameOk (n : Int) : callI G 93 [.i n] [] = some (.b (nameOk n), []) := by
  rw [callI_eq]
  unfold nameOk
  by_cases h : 0 ≤ n <;> simp [body1_eq _ _ (gp 93) g93, c93, a93, h]
def hidF (n : Int) (x : Mv) : Bool := !decide (x.1 = 0) && decide (nameI x.1 = n)
theorem cloHide (cid : Id) (n : Int) : CloOK 96 cid [.i n] (hidF n) := by
  intro o x hcid hB
  have hne : ¬ cid.1 = o.length := by omega
  have hget : ∀ r l', St.get ⟨r, l', o⟩ cid = some (.box [.i n]) := fun r l' => by rw [get_low hcid, hB]
  have hnm := eqNameI x.1
  unfold hidF
  rw [callI_eq]
  by_cases h : x.1 = 0
  · simp [-St.get, -St.set, body1_eq _ _ (gp 96) g96, c96, a96, hcid, hne, hget, get_own, set_own, hnm, h, mvP]
  · simp [-St.get, -St.set, body1_eq _ _ (gp 96) g96, c96, a96, hcid, hne, hget, get_own, set_own, hnm, h, mvP]
def hideR (n : Int) (l : List Mv) : List Mv := l.filter fun y => !hidF n y
def hideG (n : Int) (g : Gr) : Gr := g.map (hideR n)
end Go.Am
end
section
set_option maxRecDepth 10000
set_option maxHeartbeats 1000000
set_option linter.unusedSimpArgs false
set_option linter.unusedVariables false
namespace Go.Am
open Go.Proofs Go.Sort Go.Shelf
/-! lists of truth values -/
def bools (l : List Bool) : List PV := l.map PV.b
@[simp] theorem bools_len (l : List Bool) : (bools l).length = l.length := by simp [bools]
theorem bools_at (a : List Bool) (x : Bool) (b : List Bool) : nth (bools (a ++ x :: b)) a.length = some (.b x) := by
  unfold nth bools; simp
@[simp] theorem fals_bools : ∀ l : List Bool, fals (bools l) = bools l
  | [] => rfl
  | x :: l => by
    have := fals_bools l
    simp only [bools, List.map_cons, fals] at this ⊢
    rw [this]; rfl
theorem noShares_bools : ∀ l : List Bool, noShares (bools l) = true
  | [] => rfl
  | x :: l => by
    have := noShares_bools l
    simp only [bools, List.map_cons, noShares] at this ⊢
    rw [this]; rfl
theorem loopToBs (rest : List Bool) : ∀ (done : List Bool), (done ++ rest).length ≤ 9223372036854775807 →
    loopI G [0, 3, 4] [7] c45l0 ⟨[(0, .sl false 1 (bools (done ++ rest))), (3, .own (0, 7) (done ++ rest).length), (4, .i done.length)], [(7, .row 1 (bools done ++ List.replicate rest.length (.b false)))], []⟩ =
      some (.exit 0, ⟨[(0, .sl false 1 (bools (done ++ rest))), (3, .own (0, 7) (done ++ rest).length), (4, .i (done ++ rest).length), (11, .b false)], [(7, .row 1 (bools (done ++ rest)))], []⟩) := by
  induction rest with
  | nil =>
    intro done h
    rw [loopI_eq]
    simp [r45l0, b45l0]
  | cons x rest ih =>
    intro done h
    rw [loopI_eq]
    have hat := bools_at done x rest
    have hlt : (done.length : Int) < (done.length : Int) + ((rest.length : Int) + 1) := by omega
    have hw : IntKind.i64.wrap ((done.length : Int) + 1) = (done.length : Int) + 1 := wr (by simp at h; omega)
    have hn := ih (done ++ [x]) (by simpa using h)
    have hra : nth (bools done ++ PV.b false :: List.replicate rest.length (.b false)) done.length = some (.b false) := at_D _ _ _ _ (by simp)
    have hrs : ∀ y, (bools done ++ PV.b false :: List.replicate rest.length (.b false)).set done.length y = bools done ++ y :: List.replicate rest.length (.b false) := fun y => set_D _ _ _ _ _ (by simp)
    simp [r45l0, b45l0, hat, hlt, hw, List.replicate_succ, hra, hrs]
    simpa [bools, unAgg, Int.add_assoc] using hn
theorem eqToBs (l : List Bool) (h : l.length ≤ 4294967296) : callI G 45 [.sl false 1 (bools l)] [] = some (.sl true 1 (bools l), []) := by
  have hl := loopToBs l [] (by simp; omega)
  simp only [List.nil_append, List.length_nil, show bools [] = [] from rfl, show ((0 : Nat) : Int) = 0 from rfl] at hl
  rw [callI_eq]
  have h4 : (l.length : Int) ≤ 4294967296 := by omega
  simp [body1_eq _ _ (gp 45) g45, c45, a45, h, h4, hl]
theorem loopEqBs (rest : List Bool) : ∀ (done : List Bool), (done ++ rest).length ≤ 9223372036854775807 →
    loopI G [0, 1, 5] [] c47l0 ⟨[(0, .sl false 1 (bools (done ++ rest))), (1, .sl false 1 (bools (done ++ rest))), (5, .i done.length)], [], []⟩ =
      some (.exit 0, ⟨[(0, .sl false 1 (bools (done ++ rest))), (1, .sl false 1 (bools (done ++ rest))), (5, .i (done ++ rest).length), (14, .b false)], [], []⟩) := by
  induction rest with
  | nil =>
    intro done h
    rw [loopI_eq]
    simp [r47l0, b47l0]
  | cons x rest ih =>
    intro done h
    rw [loopI_eq]
    have hat := bools_at done x rest
    have hlt : (done.length : Int) < (done.length : Int) + ((rest.length : Int) + 1) := by omega
    have hw : IntKind.i64.wrap ((done.length : Int) + 1) = (done.length : Int) + 1 := wr (by simp at h; omega)
    have hn := ih (done ++ [x]) (by simpa using h)
    simp [r47l0, b47l0, hat, hlt, hw]
    simpa [Int.add_assoc] using hn
theorem eqEqBs (l : List Bool) (h : l.length ≤ 9223372036854775807) : callI G 47 [.sl false 1 (bools l), .sl false 1 (bools l)] [] = some (.b true, []) := by
  have hl := loopEqBs l [] (by simpa using h)
  simp only [List.nil_append, List.length_nil, show ((0 : Nat) : Int) = 0 from rfl] at hl
  rw [callI_eq]
  simp [body1_eq _ _ (gp 47) g47, c47, a47, hl]
/-! marked truth values: the own row of an outer frame -/
def mkB : Int → List Bool → List Bool
  | _, [] => []
  | k, _ :: l => decide (k.tmod 3 = 0) :: mkB (k + 1) l
theorem loopMkBs (id : Id) (N : Nat) (hN : N ≤ 4611686018427387904) : ∀ (rest D : List Bool) (k : Int) (o : Stack), id.1 < o.length → getS o id = some (.row 1 (bools (D ++ rest))) → N = D.length + rest.length → 0 ≤ k → k + rest.length ≤ 4611686018427387904 →
    loopI G [0, 1, 5] [] c48l0 ⟨[(0, .own id N), (1, .i k), (5, .i D.length)], [], o⟩ =
      some (.exit 0, ⟨[(0, .own id N), (1, .i (k + rest.length)), (5, .i N), (9, .b false)], [], setS o id (.row 1 (bools (D ++ mkB k rest)))⟩)
  | [], D, k, o, hid, hg, hl, hk0, hk => by
    have hne : ¬ id.1 = o.length := by omega
    simp only [List.append_nil, List.length_nil, Nat.add_zero] at hg hl
    have e2 : setS o id (.row 1 (bools (D ++ mkB k []))) = o := setS_same o id _ (by simpa [mkB] using hg)
    have hget : ∀ r l', St.get ⟨r, l', o⟩ id = some (.row 1 (bools D)) := fun r l' => by rw [get_low hid, hg]
    rw [e2, loopI_eq]
    simp [-St.get, -St.set, r48l0, b48l0, hne, hget, hl]
  | x :: rest, D, k, o, hid, hg, hl, hk0, hk => by
    simp only [List.length_cons] at hl hk
    have hne : ¬ id.1 = o.length := by omega
    have hget : ∀ r l', St.get ⟨r, l', o⟩ id = some (.row 1 (bools (D ++ x :: rest))) := fun r l' => by rw [get_low hid, hg]
    have hset : ∀ r l' R, St.set ⟨r, l', o⟩ id R = ⟨r, l', setS o id R⟩ := fun r l' R => set_low hid
    have hlt : (D.length : Int) < N := by omega
    have hlt2 : D.length < N := by omega
    have hw : IntKind.i64.wrap ((D.length : Int) + 1) = (D.length : Int) + 1 := wr (by omega)
    have hwk : IntKind.i64.wrap (k + 1) = k + 1 := wr (by omega)
    have hat := bools_at D x rest
    obtain ⟨b, hb⟩ : ∃ b, b = decide (k.tmod 3 = 0) := ⟨_, rfl⟩
    have hst : (bools (D ++ x :: rest)).set D.length (.b b) = bools ((D ++ [b]) ++ rest) := by simp [bools]
    have hml : (bools (D ++ x :: rest)).length = N := by simp; omega
    have hn := loopMkBs id N hN rest (D ++ [b]) (k + 1) (setS o id (.row 1 (bools ((D ++ [b]) ++ rest)))) (by rw [setS_len]; exact hid) (by rw [getS_setS hid]) (by simp; omega) (by omega) (by omega)
    rw [setS_setS] at hn
    have e3 : D ++ mkB k (x :: rest) = (D ++ [b]) ++ mkB (k + 1) rest := by simp [mkB, hb]
    rw [e3]
    simp only [List.length_append, List.length_cons, List.length_nil, Int.natCast_add, show ((0 + 1 : Nat) : Int) = 1 from rfl, show ((1 : Nat) : Int) = 1 from rfl] at hn ⊢
    generalize bools (D ++ x :: rest) = X at hget hat hst hml
    generalize bools ((D ++ [b]) ++ rest) = X2 at hst hn
    generalize bools ((D ++ [b]) ++ mkB (k + 1) rest) = X3 at hn ⊢
    rw [loopI_eq]
    simp [-St.get, -St.set, r48l0, b48l0, hne, hget, hset, hml, hlt, hlt2, hw, hwk, hat, unAgg, ← hb, hst, setS_len]
    simpa [Int.add_assoc, Int.add_comm 1, Int.add_left_comm] using hn
theorem eqMkBs (id : Id) (l : List Bool) (k : Int) (o : Stack) (hid : id.1 < o.length) (hg : getS o id = some (.row 1 (bools l))) (hN : l.length ≤ 1048576) (hk0 : 0 ≤ k) (hk : k ≤ 4398046511104) :
    callI G 48 [.own id l.length, .i k] o = some (.i (k + l.length), setS o id (.row 1 (bools (mkB k l)))) := by
  have hne : ¬ id.1 = o.length := by omega
  have hn := loopMkBs id l.length (by omega) l [] k o hid (by simpa using hg) (by simp) hk0 (by omega)
  simp only [List.nil_append, List.length_nil, show ((0 : Nat) : Int) = 0 from rfl] at hn
  rw [callI_eq]
  simp [-St.get, -St.set, body1_eq _ _ (gp 48) g48, c48, a48, hne, hid, hn, setS_len]
/-! what is named -/
def namd (bs : List Bool) (a : Int) : Bool := !decide (a = 0) && bs.getD (nameI a).toNat false
theorem nameI_in {a : Int} (h : actOk a = true) (h0 : a ≠ 0) : 0 ≤ nameI a ∧ nameI a < 4 := by
  simp only [actOk, Bool.and_eq_true, decide_eq_true_eq] at h
  unfold nameI
  rw [wr (n := 0 - a) (by omega)]
  split
  · rw [wr (by omega)]; omega
  · rw [wr (by omega)]; omega
theorem bools_nth {bs : List Bool} {i : Nat} (h : i < bs.length) : nth (bools bs) i = some (.b (bs.getD i false)) := by
  unfold nth bools
  simp [List.getElem?_map, List.getElem?_eq_getElem h]
theorem eqNamedI (a : Int) (bs : List Bool) (h : actOk a = true) (hb : bs.length = 4) : callI G 110 [.i a, .sl false 1 (bools bs)] [] = some (.b (namd bs a), []) := by
  have hnm := eqNameI a
  rw [callI_eq]
  unfold namd
  by_cases h0 : a = 0
  · simp [body1_eq _ _ (gp 110) g110, c110, a110, h0]
  · have hn := nameI_in h h0
    have hnt := bools_nth (bs := bs) (i := (nameI a).toNat) (by omega)
    generalize nameI a = m at hnm hn hnt
    simp [body1_eq _ _ (gp 110) g110, c110, a110, h0, hnm, hn.1, hn.2, hb, hnt]
theorem eqNamedS (a : Int) (bs : List Bool) (h : actOk a = true) (hb : bs.length = 4) : callI G 108 [.i a, .sl false 1 (bools bs)] [] = some (.b (namd bs a), []) := by
  have hnm := eqNameS a
  rw [callI_eq]
  unfold namd
  by_cases h0 : a = 0
  · simp [body1_eq _ _ (gp 108) g108, c108, a108, h0]
  · have hn := nameI_in h h0
    have hnt := bools_nth (bs := bs) (i := (nameI a).toNat) (by omega)
    generalize nameI a = m at hnm hn hnt
    simp [body1_eq _ _ (gp 108) g108, c108, a108, h0, hnm, hn.1, hn.2, hb, hnt]
theorem eqNamesOk (bs : List Bool) : callI G 109 [.sl false 1 (bools bs)] [] = some (.b (decide (bs.length = 4)), []) := by
  rw [callI_eq]
  have : decide ((bs.length : Int) = 4) = decide (bs.length = 4) := by apply decide_eq_decide.2; omega
  simp [body1_eq _ _ (gp 109) g109, c109, a109, this]
end Go.Am
end
section
set_option maxRecDepth 10000
set_option maxHeartbeats 1000000
set_option linter.unusedSimpArgs false
set_option linter.unusedVariables false
namespace Go.Am
open Go.Proofs Go.Sort Go.Shelf
def vei (bs : List Bool) (x : Mv) : Mv := if namd bs x.1 = true then (0, x.2) else x
def veiR (bs : List Bool) (l : List Mv) : List Mv := tidyL (l.map (vei bs))
def veilG (bs : List Bool) (g : Gr) : Gr := g.map (veiR bs)
theorem loopVe0 (bs : List Bool) (hb : bs.length = 4) (Y A : PV) (YL : Objs) (xs : List PV) (hY : OwnS 51 1 Y YL xs) (hA : ∀ f n, known f n A = true) (gl j N : Nat) (hN : N ≤ 1048576) : ∀ (rest done : List Mv), (∀ m ∈ rest, actOk m.1 = true) → N = done.length + rest.length →
    loopI G [1, 4, 6, 9, 23, 24, 25, 31, 32, 33] [4, 21, 30, 51, 54] c46l0 ⟨[(1, .sl false 1 (bools bs)), (4, .ref (0, 4) 1 0 0), (6, Y), (9, .own (0, 30) N), (23, A), (24, .i gl), (25, .i j), (31, .own (0, 30) N), (32, .i N), (33, .i done.length)], (4, .box [.nils]) :: (30, .row 2 ((done.map (vei bs) ++ rest).map mvP)) :: YL, []⟩ =
      some (.exit 2, ⟨[(1, .sl false 1 (bools bs)), (4, .ref (0, 4) 1 0 0), (6, Y), (9, .own (0, 30) N), (23, A), (24, .i gl), (25, .i j), (31, .own (0, 30) N), (32, .i N), (33, .i N), (34, .b false)], (4, .box [.nils]) :: (30, .row 2 (((done ++ rest).map (vei bs)).map mvP)) :: YL, []⟩)
  | [], done, hr, hl => by
    have hl2 : done.length = N := by simpa using hl.symm
    simp only [List.append_nil]
    rw [hl2]
    generalize hX : (done.map (vei bs)).map mvP = X
    rw [loopI_eq]
    rcases hY with ⟨rfl, rfl, rfl⟩ | ⟨hxs, rfl, rfl⟩
    · simp [r46l0, b46l0, hA]
    · simp [r46l0, b46l0, hA]
  | x :: rest, done, hr, hl => by
    simp only [List.length_cons] at hl
    have hlt : (done.length : Int) < N := by omega
    have hlt2 : done.length < N := by omega
    have hw : IntKind.i64.wrap ((done.length : Int) + 1) = (done.length : Int) + 1 := wr (by omega)
    have hat : nth ((done.map (vei bs) ++ x :: rest).map mvP) done.length = some (mvP x) := by
      have := mv_at (done.map (vei bs)) x rest
      simpa using this
    have hml : ((done.map (vei bs) ++ x :: rest).map mvP).length = N := by simp; omega
    have hst : ((done.map (vei bs) ++ x :: rest).map mvP).set done.length (.agg [.i 0, .i x.2]) = (done.map (vei bs) ++ (0, x.2) :: rest).map mvP := by simp [mvP]
    have hnm := eqNamedI x.1 bs (hr x List.mem_cons_self) hb
    have hn := loopVe0 bs hb Y A YL xs hY hA gl j N hN rest (done ++ [x]) (fun m hm => hr m (List.mem_cons_of_mem _ hm)) (by simp; omega)
    have e1 : (done ++ [x]).map (vei bs) ++ rest = done.map (vei bs) ++ vei bs x :: rest := by simp
    have e2 : done ++ [x] ++ rest = done ++ x :: rest := by simp
    rw [e1, e2] at hn
    simp only [List.length_append, List.length_cons, List.length_nil, Int.natCast_add, show ((0 + 1 : Nat) : Int) = 1 from rfl] at hn
    simp only [mvP] at hat
    generalize hF : ((done ++ x :: rest).map (vei bs)).map mvP = X3 at hn ⊢
    cases hv : namd bs x.1 with
    | true =>
      rw [hv] at hnm
      have hvx : vei bs x = (0, x.2) := by simp [vei, hv]
      rw [hvx] at hn
      generalize hX : (done.map (vei bs) ++ x :: rest).map mvP = X at hat hml hst ⊢
      generalize hX2 : (done.map (vei bs) ++ (0, x.2) :: rest).map mvP = X2 at hst hn
      rw [loopI_eq]
      rcases hY with ⟨rfl, rfl, rfl⟩ | ⟨hxs, rfl, rfl⟩
      · simp [r46l0, b46l0, hA, hlt, hlt2, hw, hat, hml, hst, hnm, unAgg]
        exact hn
      · simp [r46l0, b46l0, hA, hlt, hlt2, hw, hat, hml, hst, hnm, unAgg]
        exact hn
    | false =>
      rw [hv] at hnm
      have hvx : vei bs x = x := by simp [vei, hv]
      rw [hvx] at hn
      generalize hX : (done.map (vei bs) ++ x :: rest).map mvP = X at hat hml hn ⊢
      rw [loopI_eq]
      rcases hY with ⟨rfl, rfl, rfl⟩ | ⟨hxs, rfl, rfl⟩
      · simp [r46l0, b46l0, hA, hlt, hlt2, hw, hat, hml, hnm, unAgg]
        exact hn
      · simp [r46l0, b46l0, hA, hlt, hlt2, hw, hat, hml, hnm, unAgg]
        exact hn
theorem loopVe1 (bs : List Bool) (hb : bs.length = 4) (g : Gr) (h60 : g.length ≤ 60) (hs : SmallG g) (hac : ∀ l ∈ g, ∀ m ∈ l, actOk m.1 = true) : ∀ (rest done : Gr), g = done ++ rest → ∀ Y YL, OwnS 51 1 Y YL (encGs false true (veilG bs done)) →
    ∃ Y' YL', OwnS 51 1 Y' YL' (encGs false true (veilG bs g)) ∧
    loopI G [1, 4, 6, 23, 24, 25] [4, 21, 51, 54] c46l1 ⟨[(1, .sl false 1 (bools bs)), (4, .ref (0, 4) 1 0 0), (6, Y), (23, .sl false 1 (encGs false false g)), (24, .i g.length), (25, .i done.length)], (4, .box [.nils]) :: YL, []⟩ =
      some (.exit 0, ⟨[(1, .sl false 1 (bools bs)), (4, .ref (0, 4) 1 0 0), (6, Y'), (23, .sl false 1 (encGs false false g)), (24, .i g.length), (25, .i g.length), (26, .b false)], (4, .box [.nils]) :: YL', []⟩)
  | [], done, hd, Y, YL, hY => by
    rw [List.append_nil] at hd
    subst hd
    refine ⟨Y, YL, hY, ?_⟩
    rw [loopI_eq]
    rcases hY with ⟨h1, rfl, rfl⟩ | ⟨h1, rfl, rfl⟩
    · simp [r46l1, b46l1]
    · simp [r46l1, b46l1]
  | x :: rest, done, hd, Y, YL, hY => by
    have hrl : g.length = done.length + (rest.length + 1) := by rw [hd]; simp
    have hlt : (done.length : Int) < g.length := by omega
    have hlt2 : done.length < g.length := by omega
    have hw : IntKind.i64.wrap ((done.length : Int) + 1) = (done.length : Int) + 1 := wr (by omega)
    have hdl : done.length ≤ 4294967295 := by omega
    have hat : nth (encGs false false g) done.length = some (.sl false 2 (x.map mvP)) := by rw [hd]; simpa using gr_at false false done x rest
    have hxg : x ∈ g := by rw [hd]; simp
    have hx : x.length ≤ 1048576 := hs.2 x hxg
    have hcl : cloneMv [.sl false 2 (x.map mvP)] [] = some (.sl true 2 (x.map mvP), []) := by
      have : x.length ≤ 4294967296 := by omega
      simp [cloneMv, this]
    have hhl : (veilG bs done).length = done.length := by simp [veilG]
    have hnew : encGs false true (veilG bs (done ++ [x])) = encGs false true (veilG bs done) ++ [.sl true 2 ((veiR bs x).map mvP)] := by simp [encGs, veilG]
    have hYn : OwnS 51 1 (.own (0, 51) (done.length + 1)) [(51, .row 1 (encGs false true (veilG bs done) ++ [.sl true 2 ((veiR bs x).map mvP)]))] (encGs false true (veilG bs (done ++ [x]))) := by
      refine .inr ⟨by rw [hnew]; simp, ?_, ?_⟩
      · rw [hnew]; simp [hhl]
      · rw [hnew]
    obtain ⟨Y', YL', hY', hn⟩ := loopVe1 bs hb g h60 hs hac rest (done ++ [x]) (by simpa using hd) _ _ hYn
    refine ⟨Y', YL', hY', ?_⟩
    clear hY'
    simp only [List.length_append, List.length_cons, List.length_nil, Int.natCast_add, show ((0 + 1 : Nat) : Int) = 1 from rfl] at hn
    have hEl : (encGs false false g).length = g.length := by simp
    have hns := noShares_mv (veiR bs x)
    have hns2 := noShares_mv x
    have h0 := loopVe0 bs hb Y (.sl false 1 (encGs false false g)) YL _ hY (by intro f n; simp) g.length done.length x.length hx x [] (hac x hxg) (by simp)
    simp only [List.map_nil, List.nil_append, List.length_nil, show ((0 : Nat) : Int) = 0 from rfl] at h0
    have hDl : (encGs false true (veilG bs done)).length = done.length := by simp [hhl]
    have hd0 : encGs false true (veilG bs done) = [] → done = [] := fun e => by
      have := congrArg List.length e
      rw [hDl] at this
      exact List.length_eq_zero_iff.1 this
    have hvl : ((x.map (vei bs)).map mvP).length = x.length := by simp
    have hvl2 : (x.map (vei bs)).length = x.length := by simp
    have hvr : veiR bs x = tidyL (x.map (vei bs)) := rfl
    rw [hvr] at hn hns
    generalize hD : encGs false true (veilG bs done) = D at hY hn hDl hd0 h0
    generalize hE : encGs false false g = E at hat hEl hn h0 ⊢
    generalize hV : x.map (vei bs) = V at h0 hvl hvl2 hn hns
    rw [loopI_eq]
    rcases hY with ⟨h1, rfl, rfl⟩ | ⟨h1, rfl, rfl⟩
    · have hd1 := hd0 h1
      subst hd1
      subst h1
      have hlt0 : 0 < g.length := by omega
      have ht := eqTidy (0, 30) V [[(4, .box [.nils]), (30, .row 2 (V.map mvP))]] (by simp) (by simp [getS, getO]) (by rw [hvl2]; omega)
      rw [hvl2] at ht
      simp [setS, setO] at ht
      simp at h0 hn hat
      rcases ht with ⟨hts, ht⟩ | ht
      · have hTl : (tidyL V).length = x.length := by rw [hts]; simp [srtM, hvl2]
        simp [r46l1, b46l1, hlt, hlt2, hlt0, hw, hat, hEl, wr1, eqCloneM, hcl, hns, hns2, h0, hvl2, ht, hTl]
        exact hn
      · simp [r46l1, b46l1, hlt, hlt2, hlt0, hw, hat, hEl, wr1, eqCloneM, hcl, hns, hns2, h0, hvl2, ht]
        exact hn
    · have ht := eqTidy (0, 30) V [[(4, .box [.nils]), (30, .row 2 (V.map mvP)), (51, .row 1 D)]] (by simp) (by simp [getS, getO]) (by rw [hvl2]; omega)
      rw [hvl2] at ht
      simp [setS, setO] at ht
      rw [hDl] at h0 ⊢
      rcases ht with ⟨hts, ht⟩ | ht
      · have hTl : (tidyL V).length = x.length := by rw [hts]; simp [srtM, hvl2]
        simp [r46l1, b46l1, hlt, hlt2, hw, hat, hEl, eqCloneM, hcl, hns, hns2, h0, hvl2, ht, hTl, hDl, hdl]
        exact hn
      · simp [r46l1, b46l1, hlt, hlt2, hw, hat, hEl, eqCloneM, hcl, hns, hns2, h0, hvl2, ht, hDl, hdl]
        exact hn
end Go.Am
end
section
set_option maxRecDepth 10000
set_option maxHeartbeats 1000000
set_option linter.unusedSimpArgs false
set_option linter.unusedVariables false
namespace Go.Am
open Go.Proofs Go.Sort Go.Shelf
theorem grOk_act {g : Gr} (h : grOk g = true) : ∀ l ∈ g, ∀ m ∈ l, actOk m.1 = true := by
  simp only [grOk, Bool.and_eq_true, decide_eq_true_eq, List.all_eq_true] at h
  intro l hl m hm
  have := rowOk_mem (h.2.2 l hl) m hm
  simp only [mvOk, Bool.and_eq_true] at this
  exact this.1
theorem veilG_to {bs : List Bool} {g : Gr} (h : OkTo g) : OkTo (veilG bs g) := by
  intro l hl m hm
  have hn : (veilG bs g).length = g.length := by simp [veilG]
  rw [hn]
  simp only [veilG, List.mem_map] at hl
  obtain ⟨r, hr, rfl⟩ := hl
  have hm := ((tidyL_sd _).2 m).1 hm
  obtain ⟨y, hy, rfl⟩ := List.mem_map.1 hm
  have hy2 := h r hr y hy
  unfold vei
  split
  · exact hy2
  · exact hy2
theorem veilG_small {bs : List Bool} {g : Gr} (h : SmallG g) : SmallG (veilG bs g) := by
  refine ⟨by simpa [veilG] using h.1, fun l hl => ?_⟩
  simp only [veilG, List.mem_map] at hl
  obtain ⟨r, hr, rfl⟩ := hl
  have := tidyL_len (r.map (vei bs))
  have := h.2 r hr
  simp only [List.length_map] at *
  unfold veiR
  omega
def graphVeil (g : Gr) (bs : List Bool) : Gr × Bool := if grOk g && decide (bs.length = 4) then made (veilG bs g) else ([], false)
theorem eqGraphVeilI (g : Gr) (hs : SmallG g) (hf : FitG g) (bs : List Bool) : callI G 46 [encG false false g, .sl false 1 (bools bs)] [] = some (.tup [encG true true (graphVeil g bs).1, .b (graphVeil g bs).2], []) := by
  have h1 := eqNamesOk bs
  have h2 := eqOkI g hf
  simp only [encG, encM_f] at h2 ⊢
  rw [callI_eq]
  by_cases c2 : grOk g = true
  · by_cases c1 : bs.length = 4
    · obtain ⟨q1, q2, q3⟩ := grOk_to c2
      obtain ⟨Y, YL, hY, l0⟩ := loopVe1 bs c1 g q3 hs (grOk_act c2) g [] rfl .nils [] (.inl ⟨rfl, rfl, rfl⟩)
      have hal : (veilG bs g).length = g.length := by simp [veilG]
      have hp := eqPartOf _ (veilG bs g) (encR_G false false _) (veilG_to q1) (veilG_small hs) (by omega)
      have hga : graphVeil g bs = made (veilG bs g) := by simp [graphVeil, c1, c2]
      rw [hga]
      generalize hm : made (veilG bs g) = m at hp ⊢
      obtain ⟨mg, mb⟩ := m
      simp only [encG] at hp ⊢
      simp only [List.length_nil, show ((0 : Nat) : Int) = 0 from rfl] at l0
      have efl : fals (encGs false true (veilG bs g)) = encGs false false (veilG bs g) := fals_encGs _ _ _
      have hns := noShares_encGs true mg
      have hne : encGs false true (veilG bs g) ≠ [] := by
        intro e
        have := congrArg List.length e
        rw [encGs_len, hal] at this
        simp at this
        rw [this] at q2; simp at q2
      rcases hY with ⟨e, _⟩ | ⟨_, rfl, rfl⟩
      · exact absurd e hne
      rcases encM_two true true mg with ⟨e, _⟩ | e
      · rw [e] at hp ⊢
        simp [body1_eq _ _ (gp 46) g46, c46, a46, h1, h2, c1, c2, l0, hal, efl, hp, hns]
      · rw [e] at hp ⊢
        simp [body1_eq _ _ (gp 46) g46, c46, a46, h1, h2, c1, c2, l0, hal, efl, hp, hns]
    · have hga : graphVeil g bs = ([], false) := by simp [graphVeil, c1]
      rw [hga]
      simp [body1_eq _ _ (gp 46) g46, c46, a46, h1, h2, c1, c2]
  · have c2 : grOk g = false := by simpa using c2
    have hga : graphVeil g bs = ([], false) := by simp [graphVeil, c2]
    rw [hga]
    simp [body1_eq _ _ (gp 46) g46, c46, a46, h2, c2]
end Go.Am
end
section
set_option maxRecDepth 10000
set_option maxHeartbeats 1000000
set_option linter.unusedSimpArgs false
set_option linter.unusedVariables false
namespace Go.Am
open Go.Proofs Go.Sort Go.Shelf
theorem loopVs0 (bs : List Bool) (hb : bs.length = 4) (E : List PV) (g : Gr) (hE : EncR false E g) (Y : PV) (YL : Objs) (xs : List PV) (hY : OwnS 61 1 Y YL xs) (j : Nat) (hj : j < g.length) (hjb : j ≤ 1048576) (L : List Mv) (hL : g.getD j [] = L) (hLl : L.length ≤ 1048576) (hac : ∀ m ∈ L, actOk m.1 = true) : ∀ (rest done : List Mv), L = done ++ rest →
    loopI G [1, 2, 4, 6, 7, 8, 9] [2, 4, 6, 28, 55, 61, 64] c44l0 ⟨[(1, .sl false 1 (bools bs)), (2, .ref (0, 2) 1 0 0), (4, .ref (0, 4) 1 0 0), (6, .ref (0, 6) 1 0 0), (7, .i j), (8, owP 55 (done.map (vei bs))), (9, .i done.length)], (2, .box [PV.sl false 1 E]) :: (4, .box [.nils]) :: (6, .box [Y]) :: (owL 55 (done.map (vei bs)) ++ YL), []⟩ =
      some (.exit 2, ⟨[(1, .sl false 1 (bools bs)), (2, .ref (0, 2) 1 0 0), (4, .ref (0, 4) 1 0 0), (6, .ref (0, 6) 1 0 0), (7, .i j), (8, owP 55 (L.map (vei bs))), (9, .i L.length), (36, .b false)], (2, .box [PV.sl false 1 E]) :: (4, .box [.nils]) :: (6, .box [Y]) :: (owL 55 (L.map (vei bs)) ++ YL), []⟩)
  | [], done, hd => by
    rw [List.append_nil] at hd
    subst hd
    have hEl := hE.1
    obtain ⟨nl, hat⟩ := hE.2 j hj
    rw [hL] at hat
    have hji : (j : Int) < g.length := by omega
    clear hE
    rw [loopI_eq]
    rcases encL_two nl false L with ⟨e, e2⟩ | e
    · rw [e] at hat
      subst e2
      rcases hY with ⟨rfl, rfl, rfl⟩ | ⟨hxs, rfl, rfl⟩
      · simp [r44l0, b44l0, hEl, hj, hji, hat]
      · simp [r44l0, b44l0, hEl, hj, hji, hat]
    · rw [e] at hat
      by_cases hd : L = []
      · subst hd
        simp at hat
        rcases hY with ⟨rfl, rfl, rfl⟩ | ⟨hxs, rfl, rfl⟩
        · simp [r44l0, b44l0, hEl, hj, hji, hat]
        · simp [r44l0, b44l0, hEl, hj, hji, hat]
      · have hd2 : L.map (vei bs) ≠ [] := by simp [hd]
        rw [owP_ne hd2, owL_ne hd2]
        rcases hY with ⟨rfl, rfl, rfl⟩ | ⟨hxs, rfl, rfl⟩
        · simp [r44l0, b44l0, hEl, hj, hji, hat]
        · simp [r44l0, b44l0, hEl, hj, hji, hat]
  | m :: rest, done, hd => by
    have hEl := hE.1
    obtain ⟨nl, hat⟩ := hE.2 j hj
    rw [hL] at hat
    have hji : (j : Int) < g.length := by omega
    have hen : encL nl false L = .sl false 2 (L.map mvP) := encL_ne (by rw [hd]; simp)
    rw [hen] at hat
    have hLl2 : L.length = done.length + (rest.length + 1) := by rw [hd]; simp
    have hlt : (done.length : Int) < L.length := by omega
    have hlt2 : done.length < L.length := by omega
    have hw : IntKind.i64.wrap ((done.length : Int) + 1) = (done.length : Int) + 1 := wr (by omega)
    have hhl : (done.map (vei bs)).length = done.length := by simp
    have hdl : done.length ≤ 4294967295 := by omega
    have hat2 : nth (L.map mvP) done.length = some (mvP m) := by rw [hd]; exact mv_at done m rest
    have hnm := eqNamedS m.1 bs (hac m (by rw [hd]; simp)) hb
    have hn := loopVs0 bs hb E g hE Y YL xs hY j hj hjb L hL hLl hac rest (done ++ [m]) (by simpa using hd)
    have hml : (L.map mvP).length = L.length := by simp
    have hh : (done ++ [m]).map (vei bs) = done.map (vei bs) ++ [vei bs m] := by simp
    rw [hh] at hn
    simp only [List.length_append, List.length_cons, List.length_nil, Int.natCast_add, show ((0 + 1 : Nat) : Int) = 1 from rfl] at hn
    clear hE hh
    generalize hM : L.map mvP = M at hat hat2 hml
    have hHd : done.map (vei bs) = [] → done = [] := fun e => by simpa using e
    generalize hH : done.map (vei bs) = H at hn hhl hHd ⊢
    generalize hH2 : L.map (vei bs) = H2 at hn ⊢
    simp only [mvP] at hat2
    rw [loopI_eq]
    cases hv : namd bs m.1 with
    | true =>
      rw [hv] at hnm
      have hvx : vei bs m = (0, m.2) := by simp [vei, hv]
      rw [hvx] at hn
      by_cases hdn : H = []
      · have hd1 := hHd hdn
        subst hd1
        subst hdn
        simp [mvP] at hn hat2
        have hlt0 : 0 < L.length := by omega
        rcases hY with ⟨rfl, rfl, rfl⟩ | ⟨hxs, rfl, rfl⟩
        · simp [r44l0, b44l0, hEl, hj, hji, hat, hat2, hml, hlt, hlt2, hlt0, unAgg, hw, wr1, hnm]
          simpa using hn
        · simp [r44l0, b44l0, hEl, hj, hji, hat, hat2, hml, hlt, hlt2, hlt0, unAgg, hw, wr1, hnm]
          exact hn
      · rw [owP_ne hdn, owL_ne hdn]
        simp [mvP] at hn
        rcases hY with ⟨rfl, rfl, rfl⟩ | ⟨hxs, rfl, rfl⟩
        · simp [r44l0, b44l0, hEl, hj, hji, hat, hat2, hml, hlt, hlt2, unAgg, hw, hhl, hdl, hnm]
          simpa [hhl] using hn
        · simp [r44l0, b44l0, hEl, hj, hji, hat, hat2, hml, hlt, hlt2, unAgg, hw, hhl, hdl, hnm]
          simpa [hhl] using hn
    | false =>
      rw [hv] at hnm
      have hvx : vei bs m = m := by simp [vei, hv]
      rw [hvx] at hn
      by_cases hdn : H = []
      · have hd1 := hHd hdn
        subst hd1
        subst hdn
        simp [mvP] at hn hat2
        have hlt0 : 0 < L.length := by omega
        rcases hY with ⟨rfl, rfl, rfl⟩ | ⟨hxs, rfl, rfl⟩
        · simp [r44l0, b44l0, hEl, hj, hji, hat, hat2, hml, hlt, hlt2, hlt0, unAgg, hw, wr1, hnm]
          simpa using hn
        · simp [r44l0, b44l0, hEl, hj, hji, hat, hat2, hml, hlt, hlt2, hlt0, unAgg, hw, wr1, hnm]
          exact hn
      · rw [owP_ne hdn, owL_ne hdn]
        simp [mvP] at hn
        rcases hY with ⟨rfl, rfl, rfl⟩ | ⟨hxs, rfl, rfl⟩
        · simp [r44l0, b44l0, hEl, hj, hji, hat, hat2, hml, hlt, hlt2, unAgg, hw, hhl, hdl, hnm]
          simpa [hhl] using hn
        · simp [r44l0, b44l0, hEl, hj, hji, hat, hat2, hml, hlt, hlt2, unAgg, hw, hhl, hdl, hnm]
          simpa [hhl] using hn
end Go.Am
end
section
set_option maxRecDepth 10000
set_option maxHeartbeats 1000000
set_option linter.unusedSimpArgs false
set_option linter.unusedVariables false
namespace Go.Am
open Go.Proofs Go.Sort Go.Shelf
theorem loopVs1 (bs : List Bool) (hb : bs.length = 4) (E : List PV) (g : Gr) (hE : EncR false E g) (h60 : g.length ≤ 60) (hs : SmallG g) (hac : ∀ l ∈ g, ∀ m ∈ l, actOk m.1 = true) : ∀ (rest done : Gr), g = done ++ rest → ∀ Y YL, OwnS 61 1 Y YL (encGs true true (veilG bs done)) →
    ∃ Y' YL', OwnS 61 1 Y' YL' (encGs true true (veilG bs g)) ∧
    loopI G [1, 2, 4, 6, 7] [2, 4, 6, 61, 64] c44l1 ⟨[(1, .sl false 1 (bools bs)), (2, .ref (0, 2) 1 0 0), (4, .ref (0, 4) 1 0 0), (6, .ref (0, 6) 1 0 0), (7, .i done.length)], (2, .box [PV.sl false 1 E]) :: (4, .box [.nils]) :: (6, .box [Y]) :: YL, []⟩ =
      some (.exit 0, ⟨[(1, .sl false 1 (bools bs)), (2, .ref (0, 2) 1 0 0), (4, .ref (0, 4) 1 0 0), (6, .ref (0, 6) 1 0 0), (7, .i g.length), (25, .b false)], (2, .box [PV.sl false 1 E]) :: (4, .box [.nils]) :: (6, .box [Y']) :: YL', []⟩)
  | [], done, hd, Y, YL, hY => by
    rw [List.append_nil] at hd
    subst hd
    refine ⟨Y, YL, hY, ?_⟩
    rw [loopI_eq]
    rcases hY with ⟨h1, rfl, rfl⟩ | ⟨h1, rfl, rfl⟩
    · simp [r44l1, b44l1, hE.1]
    · simp [r44l1, b44l1, hE.1]
  | x :: rest, done, hd, Y, YL, hY => by
    have hEl := hE.1
    have hrl : g.length = done.length + (rest.length + 1) := by rw [hd]; simp
    have hlt : (done.length : Int) < g.length := by omega
    have hlt2 : done.length < g.length := by omega
    have hw : IntKind.i64.wrap ((done.length : Int) + 1) = (done.length : Int) + 1 := wr (by omega)
    have hdl : done.length ≤ 4294967295 := by omega
    have hxg : x ∈ g := by rw [hd]; simp
    have hx : x.length ≤ 1048576 := hs.2 x hxg
    have hgd : g.getD done.length [] = x := by rw [hd]; simp
    have h0 := loopVs0 bs hb E g hE Y YL _ hY done.length hlt2 (by omega) x hgd hx (hac x hxg) x [] rfl
    simp only [List.length_nil, show ((0 : Nat) : Int) = 0 from rfl, List.map_nil, owP_n, owL_n, List.nil_append] at h0
    have hnew : encGs true true (veilG bs (done ++ [x])) = encGs true true (veilG bs done) ++ [encL true true (veiR bs x)] := by simp [encGs, veilG]
    have hhl : (veilG bs done).length = done.length := by simp [veilG]
    have hYn : OwnS 61 1 (.own (0, 61) (done.length + 1)) [(61, .row 1 (encGs true true (veilG bs done) ++ [encL true true (veiR bs x)]))] (encGs true true (veilG bs (done ++ [x]))) := by
      refine .inr ⟨by rw [hnew]; simp, ?_, ?_⟩
      · rw [hnew]; simp [hhl]
      · rw [hnew]
    obtain ⟨Y', YL', hY', hn⟩ := loopVs1 bs hb E g hE h60 hs hac rest (done ++ [x]) (by simpa using hd) _ _ hYn
    refine ⟨Y', YL', hY', ?_⟩
    clear hY' hE
    simp only [List.length_append, List.length_cons, List.length_nil, Int.natCast_add, show ((0 + 1 : Nat) : Int) = 1 from rfl] at hn
    have hso := eqSorted true (x.map (vei bs)) (by simp; omega)
    have hvr : tidyL (x.map (vei bs)) = veiR bs x := rfl
    rw [hvr] at hso
    have hns := noShares_mv (veiR bs x)
    have hDl : (encGs true true (veilG bs done)).length = done.length := by simp [hhl]
    have hd0 : encGs true true (veilG bs done) = [] → done = [] := fun e => by
      have := congrArg List.length e
      rw [hDl] at this
      exact List.length_eq_zero_iff.1 this
    generalize hD : encGs true true (veilG bs done) = D at hY hn hDl hd0 h0
    rw [loopI_eq]
    by_cases hxe : x = []
    · subst hxe
      have hv0 : veiR bs [] = [] := tidyL_n
      rw [hv0] at hn hso
      simp only [List.map_nil, owP_n, owL_n, List.nil_append, encL_n] at h0 hn hso
      rcases hY with ⟨h1, rfl, rfl⟩ | ⟨h1, rfl, rfl⟩
      · have hd1 := hd0 h1
        subst hd1
        subst h1
        have hlt0 : 0 < g.length := by omega
        simp at h0 hn
        simp [r44l1, b44l1, hlt, hlt2, hlt0, hw, hEl, h0, hso, wr1]
        exact hn
      · rw [hDl] at h0 ⊢
        simp at h0
        simp [r44l1, b44l1, hlt, hlt2, hw, hEl, h0, hso, hDl, hdl]
        exact hn
    · have hne : x.map (vei bs) ≠ [] := by simp [hxe]
      have hne2 : veiR bs x ≠ [] := tidyL_ne hne
      have he : encL true true (veiR bs x) = .sl true 2 ((veiR bs x).map mvP) := encL_ne hne2
      rw [encL_ne hne] at hso
      rw [he] at hn hso
      rw [owP_ne hne, owL_ne hne] at h0
      have hf := fals_mvP (x.map (vei bs))
      generalize hV : x.map (vei bs) = V at h0 hso hf
      generalize hW : veiR bs x = W at hn hso hns
      rcases hY with ⟨h1, rfl, rfl⟩ | ⟨h1, rfl, rfl⟩
      · have hd1 := hd0 h1
        subst hd1
        subst h1
        have hlt0 : 0 < g.length := by omega
        simp at h0 hn
        simp [r44l1, b44l1, hlt, hlt2, hlt0, hw, hEl, h0, hf, hso, hns, wr1]
        exact hn
      · rw [hDl] at h0 ⊢
        simp at h0
        simp [r44l1, b44l1, hlt, hlt2, hw, hEl, h0, hf, hso, hns, hDl, hdl]
        exact hn
theorem eqGraphVeilS (g : Gr) (hs : SmallG g) (hf : FitG g) (bs : List Bool) : callI G 44 [encG false false g, .sl false 1 (bools bs)] [] = some (.tup [encG true true (graphVeil g bs).1, .b (graphVeil g bs).2], []) := by
  have h2 := eqOkS g hf
  simp only [encG, encM_f] at h2 ⊢
  rw [callI_eq]
  by_cases c2 : grOk g = true
  · by_cases c1 : bs.length = 4
    · obtain ⟨q1, q2, q3⟩ := grOk_to c2
      obtain ⟨Y, YL, hY, l0⟩ := loopVs1 bs c1 _ g (encR_G false false g) q3 hs (grOk_act c2) g [] rfl .nils [] (.inl ⟨rfl, rfl, rfl⟩)
      have hal : (veilG bs g).length = g.length := by simp [veilG]
      have hm := eqMade _ (veilG bs g) (encR_G true false _) (veilG_to q1) (veilG_small hs) (by omega)
      have hga : graphVeil g bs = made (veilG bs g) := by simp [graphVeil, c1, c2]
      rw [hga]
      generalize hmm : made (veilG bs g) = m at hm ⊢
      obtain ⟨mg, mb⟩ := m
      simp only [encG] at hm ⊢
      simp only [List.length_nil, show ((0 : Nat) : Int) = 0 from rfl] at l0
      have efl : fals (encGs true true (veilG bs g)) = encGs true false (veilG bs g) := fals_encGs _ _ _
      have hns := noShares_encGs true mg
      have hns2 := noShares_encGs true (veilG bs g)
      have hne : encGs true true (veilG bs g) ≠ [] := by
        intro e
        have := congrArg List.length e
        rw [encGs_len, hal] at this
        simp at this
        rw [this] at q2; simp at q2
      have c3 : ¬ ¬ ((bs.length : Int) = 4) := by omega
      rcases hY with ⟨e, _⟩ | ⟨_, rfl, rfl⟩
      · exact absurd e hne
      rcases encM_two true true mg with ⟨e, _⟩ | e
      · rw [e] at hm ⊢
        simp [body1_eq _ _ (gp 44) g44, c44, a44, h2, c1, c2, l0, hal, efl, hm, hns, hns2]
      · rw [e] at hm ⊢
        simp [body1_eq _ _ (gp 44) g44, c44, a44, h2, c1, c2, l0, hal, efl, hm, hns, hns2]
    · have hga : graphVeil g bs = ([], false) := by simp [graphVeil, c1]
      have c3 : ¬ ((bs.length : Int) = 4) := by omega
      rw [hga]
      simp [body1_eq _ _ (gp 44) g44, c44, a44, h2, c1, c2, c3]
  · have c2 : grOk g = false := by simpa using c2
    have hga : graphVeil g bs = ([], false) := by simp [graphVeil, c2]
    rw [hga]
    simp [body1_eq _ _ (gp 44) g44, c44, a44, h2, c2]
end Go.Am
end
section
set_option maxRecDepth 10000
set_option maxHeartbeats 2000000
set_option linter.unusedSimpArgs false
set_option linter.unusedVariables false
namespace Go.Am
open Go.Proofs Go.Sort Go.Shelf
theorem graphVeil_small {bs : List Bool} {g : Gr} (h : SmallG g) : SmallG (graphVeil g bs).1 := by
  unfold graphVeil
  split
  · rename_i hc
    simp only [Bool.and_eq_true] at hc
    exact made_small (veilG_small h)
  · exact ⟨by simp, fun l hl => by cases hl⟩
theorem lawGraphVeil (g : Gr) (hf : FitG g) (bs : List Bool) (hbl : bs.length ≤ 9223372036854775807) : callI G 10 [encG false false g, .sl false 1 (bools bs)] [] = some (.b true, []) := by
  have h1 := eqSzG g hf
  rw [callI_eq]
  by_cases hb0 : (1048576 : Int) < bs.length
  · simp only [encG, encM_f]
    simp [body1_eq _ _ (gp 10) g10, c10, a10, hb0]
  by_cases hs : szG g 1048576 < 0
  · simp only [encG, encM_f, hs, if_true] at h1 ⊢
    simp [body1_eq _ _ (gp 10) g10, c10, a10, hb0, h1]
  · have hsm := szG_small hs
    have ht := eqToG g hsm
    have hbt := eqToBs bs (by omega)
    have hbe := eqEqBs bs hbl
    have hS := eqGraphVeilS g hsm hf bs
    have hI := eqGraphVeilI g hsm hf bs
    have hE0 := eqEqG false false g g hf
    have hr := graphVeil_small (bs := bs) hsm
    generalize hR : graphVeil g bs = R at hS hI hr
    obtain ⟨q, b⟩ := R
    have hrc := SmallG.cnt hr
    simp only at hrc
    have hgc := SmallG.cnt hsm
    have hcp := cntG_pos g
    have hcq := cntG_pos q
    have hEq := eqEqG true true q q hr.fit
    have hH := eqHlG true q 1 (by have := hr.1; simp only at this; omega) (by omega) (by omega)
    have hMg := fun (Lo : Objs) (h : getO Lo 34 = some (.row 1 (encGs false true g))) => eqMkG false g 1 [Lo] (0, 34) (by simp) h (by have := hsm.1; omega) (by omega) (by omega)
    have hMb := fun (Lo : Objs) (h : getO Lo 36 = some (.row 1 (bools bs))) => eqMkBs (0, 36) bs (1 + 2 * cntG g) [Lo] (by simp) h (by omega) (by omega) (by omega)
    have hMq := fun (Lo : Objs) (h : getO Lo 40 = some (.row 1 (encGs true true q))) => eqMkG true q 1 [Lo] (0, 40) (by simp) h (by have := hr.1; simp only at this; omega) (by omega) (by omega)
    simp only [show ∀ (Lo : Objs) (d : Nat) (ob : OB), setS [Lo] (0, d) ob = [setO Lo d ob] from fun _ _ _ => rfl] at hMg hMq hMb
    have hns := noShares_encGs true q
    have hns2 := noShares_encGs false g
    have hns3 := noShares_bools bs
    have hfl : fals (encGs false true g) = encGs false false g := fals_encGs _ _ _
    have hflq : fals (encGs true true q) = encGs true false q := fals_encGs _ _ _
    have hflm : ∀ k, fals (encGs true true (mkG k q)) = encGs true false (mkG k q) := fun k => fals_encGs _ _ _
    have hk : ¬ (1 + 2 * cntG g + bs.length < 0) := by omega
    have hk2 : ¬ (1 + 2 * cntG q < 0) := by omega
    simp only [decide_true] at hE0 hEq
    simp only [encG, encM_f, hs, if_false] at h1 ht hS hI hE0 hEq hH ⊢
    rcases encM_two true true q with ⟨e, e2⟩ | e
    · subst e2
      have hM := eqMkGN 1
      simp only [encM_n, mkG, cntG, Int.mul_zero, Int.add_zero] at hS hI hEq hH
      simp [body1_eq _ _ (gp 10) g10, c10, a10, hb0, h1, hs, ht, hbt, hbe, hS, hI, hE0, hEq, hH, hM, hfl, hns2, hns3, hk, hMg, hMb]
    · have hqn : q ≠ [] := by intro e3; rw [e3] at e; cases e
      have eF : encM' true false q = .sl false 1 (encGs true false q) := encM_ne hqn
      have eM : encM' true false (mkG 1 q) = .sl false 1 (encGs true false (mkG 1 q)) := encM_ne (mkG_ne hqn)
      rw [e] at hS hI
      rw [eF] at hEq
      rw [eM] at hH
      simp [body1_eq _ _ (gp 10) g10, c10, a10, hb0, h1, hs, ht, hbt, hbe, hS, hI, hE0, hEq, hH, hfl, hflq, hflm, hns, hns2, hns3, hk, hk2, hMg, hMb, hMq]
end Go.Am
end
