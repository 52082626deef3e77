/- What GraphHide of both sides makes. -/
import Derived.Test.YtlldnglfoajfcaaGsD
section
set_option maxRecDepth 10000
set_option maxHeartbeats 1000000
set_option linter.unusedSimpArgs false
set_option linter.unusedVariables false
namespace Go.Am
open Go.Proofs Go.Sort Go.Shelf
/-! slices.IndexFunc and slices.DeleteFunc at moves, with a closure over one box of an outer frame -/
def CloOK (cf : Nat) (cid : Id) (B : List PV) (F : Mv → Bool) : Prop :=
  ∀ (o : Stack) (x : Mv), cid.1 < o.length → getS o cid = some (.box B) → callI G cf [mvP x, .ref cid 1 0 0] o = some (.b (F x), o)
theorem loopIx (cf : Nat) (cid : Id) (B : List PV) (F : Mv → Bool) (hc : CloOK cf cid B F) (id : Id) (l : List Mv) (o : Stack) (hid : id.1 < o.length) (hg : getS o id = some (.row 2 (l.map mvP))) (hcid : cid.1 < o.length) (hB : getS o cid = some (.box B)) (hN : l.length ≤ 4611686018427387904) : ∀ (rest done : List Mv), l = done ++ rest →
    (∃ a x b, rest = a ++ x :: b ∧ (∀ y ∈ a, F y = false) ∧ F x = true ∧ loopI G [0, 1, 7, 8] [] c143l0 ⟨[(0, .own id l.length), (1, .clo cf [.ref cid 1 0 0]), (7, .i l.length), (8, .i done.length)], [], o⟩ = some (.ret, ⟨[(4, .i (done ++ a).length)], [], o⟩)) ∨
    ((∀ y ∈ rest, F y = false) ∧ loopI G [0, 1, 7, 8] [] c143l0 ⟨[(0, .own id l.length), (1, .clo cf [.ref cid 1 0 0]), (7, .i l.length), (8, .i done.length)], [], o⟩ = some (.exit 0, ⟨[(0, .own id l.length), (1, .clo cf [.ref cid 1 0 0]), (7, .i l.length), (8, .i l.length), (9, .b false)], [], o⟩))
  | [], done, hd => by
    rw [List.append_nil] at hd
    subst hd
    have hne : ¬ id.1 = o.length := by omega
    have hne2 : ¬ cid.1 = o.length := by omega
    refine .inr ⟨fun y hy => (by cases hy), ?_⟩
    rw [loopI_eq]
    simp [-St.get, -St.set, r143l0, b143l0, hne, hne2]
  | x :: rest, done, hd => by
    have hne : ¬ id.1 = o.length := by omega
    have hne2 : ¬ cid.1 = o.length := by omega
    have hget : ∀ r l', St.get ⟨r, l', o⟩ id = some (.row 2 (l.map mvP)) := fun r l' => by rw [get_low hid, hg]
    have hgetc : ∀ r l', St.get ⟨r, l', o⟩ cid = some (.box B) := fun r l' => by rw [get_low hcid, hB]
    have hll : l.length = done.length + (rest.length + 1) := by rw [hd]; simp
    have hlt : (done.length : Int) < l.length := by omega
    have hlt2 : done.length < l.length := by omega
    have hw : IntKind.i64.wrap ((done.length : Int) + 1) = (done.length : Int) + 1 := wr (by omega)
    have hat : nth (l.map mvP) done.length = some (mvP x) := by rw [hd]; exact mv_at done x rest
    have hml : (l.map mvP).length = l.length := by simp
    have hcx := hc (o ++ [[]]) x (by simp; omega) (by rw [getS_app _ _ _ hcid]; exact hB)
    simp only [mvP] at hat hcx
    cases hF : F x with
    | true =>
      rw [hF] at hcx
      refine .inl ⟨[], x, rest, rfl, (fun y hy => by cases hy), hF, ?_⟩
      generalize hM : l.map mvP = M at hat hml hget
      rw [loopI_eq]
      simp [-St.get, -St.set, r143l0, b143l0, hne, hne2, hget, hgetc, hlt, hlt2, hml, hat, hcx]
    | false =>
      rw [hF] at hcx
      have ih := loopIx cf cid B F hc id l o hid hg hcid hB hN rest (done ++ [x]) (by simpa using hd)
      simp only [List.length_append, List.length_cons, List.length_nil, Int.natCast_add, show ((0 + 1 : Nat) : Int) = 1 from rfl] at ih
      rcases ih with ⟨a, z, b, h1, h2, h3, h4⟩ | ⟨h1, h2⟩
      · refine .inl ⟨x :: a, z, b, by rw [h1]; rfl, fun y hy => ?_, h3, ?_⟩
        · rcases List.mem_cons.1 hy with rfl | hy
          · exact hF
          · exact h2 y hy
        · generalize hM : l.map mvP = M at hat hml hget
          rw [loopI_eq]
          simp [-St.get, -St.set, r143l0, b143l0, hne, hne2, hget, hgetc, hlt, hlt2, hml, hat, hcx, hw]
          simpa [Int.add_assoc, Int.add_comm 1] using h4
      · refine .inr ⟨fun y hy => ?_, ?_⟩
        · rcases List.mem_cons.1 hy with rfl | hy
          · exact hF
          · exact h1 y hy
        · generalize hM : l.map mvP = M at hat hml hget
          rw [loopI_eq]
          simp [-St.get, -St.set, r143l0, b143l0, hne, hne2, hget, hgetc, hlt, hlt2, hml, hat, hcx, hw]
          simpa using h2
theorem eqIx (cf : Nat) (cid : Id) (B : List PV) (F : Mv → Bool) (hc : CloOK cf cid B F) (id : Id) (l : List Mv) (o : Stack) (hid : id.1 < o.length) (hg : getS o id = some (.row 2 (l.map mvP))) (hcid : cid.1 < o.length) (hB : getS o cid = some (.box B)) (hN : l.length ≤ 4611686018427387904) :
    (∃ a x b, l = a ++ x :: b ∧ (∀ y ∈ a, F y = false) ∧ F x = true ∧ callI G 143 [.own id l.length, .clo cf [.ref cid 1 0 0]] o = some (.i a.length, o)) ∨
    ((∀ y ∈ l, F y = false) ∧ callI G 143 [.own id l.length, .clo cf [.ref cid 1 0 0]] o = some (.i (-1), o)) := by
  have hne : ¬ id.1 = o.length := by omega
  have hne2 : ¬ cid.1 = o.length := by omega
  have hget : ∀ r l', St.get ⟨r, l', o⟩ id = some (.row 2 (l.map mvP)) := fun r l' => by rw [get_low hid, hg]
  have hml : (l.map mvP).length = l.length := by simp
  rcases loopIx cf cid B F hc id l o hid hg hcid hB hN l [] rfl with ⟨a, x, b, h1, h2, h3, h4⟩ | ⟨h1, h2⟩
  · refine .inl ⟨a, x, b, h1, h2, h3, ?_⟩
    rw [List.nil_append] at h4
    simp only [List.length_nil, show ((0 : Nat) : Int) = 0 from rfl] at h4
    generalize hM : l.map mvP = M at hml hget
    rw [callI_eq]
    simp [-St.get, -St.set, body1_eq _ _ (gp 143) g143, c143, a143, hne, hne2, hget, hml, hid, hcid, h4]
  · refine .inr ⟨h1, ?_⟩
    simp only [List.length_nil, show ((0 : Nat) : Int) = 0 from rfl] at h2
    generalize hM : l.map mvP = M at hml hget
    rw [callI_eq]
    simp [-St.get, -St.set, body1_eq _ _ (gp 143) g143, c143, a143, hne, hne2, hget, hml, hid, hcid, h2]
end Go.Am
end
section
set_option maxRecDepth 10000
set_option maxHeartbeats 1000000
set_option linter.unusedSimpArgs false
set_option linter.unusedVariables false
namespace Go.Am
open Go.Proofs Go.Sort Go.Shelf
theorem getS_ne {o : Stack} {id cid : Id} {R : OB} (h : id.1 < o.length) (hn : cid ≠ id) : getS (setS o id R) cid = getS o cid := by
  rw [← gt_getS, gt_setS h, ← gt_getS]
  simp [upd, hn]
theorem loopDl (cf : Nat) (cid : Id) (B : List PV) (F : Mv → Bool) (hc : CloOK cf cid B F) (id : Id) (hci : cid ≠ id) (N : Nat) (hN : N ≤ 4611686018427387904) : ∀ (rest K M : List Mv) (o : Stack), id.1 < o.length → getS o id = some (.row 2 ((K ++ (M ++ rest)).map mvP)) → cid.1 < o.length → getS o cid = some (.box B) → M ≠ [] → N = K.length + M.length + rest.length →
    ∃ Z : List Mv, Z.length = N - (K ++ rest.filter (fun y => !F y)).length ∧ loopI G [0, 1, 5, 6] [] c94l0 ⟨[(0, .own id N), (1, .clo cf [.ref cid 1 0 0]), (5, .i K.length), (6, .i (K.length + M.length))], [], o⟩ =
      some (.exit 0, ⟨[(0, .own id N), (1, .clo cf [.ref cid 1 0 0]), (5, .i (K ++ rest.filter (fun y => !F y)).length), (6, .i N), (19, .b false)], [], setS o id (.row 2 (((K ++ rest.filter (fun y => !F y)) ++ Z).map mvP))⟩)
  | [], K, M, o, hid, hg, hcid, hB, hM, hl => by
    have hne : ¬ id.1 = o.length := by omega
    have hne2 : ¬ cid.1 = o.length := by omega
    simp only [List.append_nil, List.length_nil, Nat.add_zero] at hg hl
    refine ⟨M, by simp; omega, ?_⟩
    have e2 : setS o id (.row 2 (((K ++ ([] : List Mv).filter (fun y => !F y)) ++ M).map mvP)) = o := setS_same o id _ (by simpa using hg)
    have hget : ∀ r l', St.get ⟨r, l', o⟩ id = some (.row 2 ((K ++ M).map mvP)) := fun r l' => by rw [get_low hid, hg]
    have hml : ((K ++ M).map mvP).length = N := by simp; omega
    have hki : (K.length : Int) + M.length = N := by omega
    rw [e2, hki]
    generalize hX : (K ++ M).map mvP = X at hget hml
    rw [loopI_eq]
    simp [-St.get, -St.set, r94l0, b94l0, hne, hne2, hget, hml]
  | y :: rest, K, M, o, hid, hg, hcid, hB, hM, hl => by
    simp only [List.length_cons] at hl
    have hne : ¬ id.1 = o.length := by omega
    have hne2 : ¬ cid.1 = o.length := by omega
    have hget : ∀ r l', St.get ⟨r, l', o⟩ id = some (.row 2 ((K ++ (M ++ y :: rest)).map mvP)) := fun r l' => by rw [get_low hid, hg]
    have hgetc : ∀ r l', St.get ⟨r, l', o⟩ cid = some (.box B) := fun r l' => by rw [get_low hcid, hB]
    have hset : ∀ r l' R, St.set ⟨r, l', o⟩ id R = ⟨r, l', setS o id R⟩ := fun r l' R => set_low hid
    have hml : ((K ++ (M ++ y :: rest)).map mvP).length = N := by simp; omega
    have hM0 : 0 < M.length := List.length_pos_iff.2 hM
    have hlt : (K.length : Int) + M.length < N := by omega
    have hltK : (K.length : Int) < N := by omega
    have hge : (0 : Int) ≤ (K.length : Int) + M.length := by omega
    have htn : ((K.length : Int) + M.length).toNat = K.length + M.length := by omega
    have hw : IntKind.i64.wrap ((K.length : Int) + M.length + 1) = (K.length : Int) + M.length + 1 := wr (by omega)
    have hwK : IntKind.i64.wrap ((K.length : Int) + 1) = (K.length : Int) + 1 := wr (by omega)
    have hat : nth ((K ++ (M ++ y :: rest)).map mvP) (K.length + M.length) = some (mvP y) := by
      have := mv_at (K ++ M) y rest
      simpa using this
    have hcx := hc (o ++ [[]]) y (by simp; omega) (by rw [getS_app _ _ _ hcid]; exact hB)
    simp only [mvP] at hat hcx
    cases hF : F y with
    | true =>
      rw [hF] at hcx
      obtain ⟨Z, hZ, hn⟩ := loopDl cf cid B F hc id hci N hN rest K (M ++ [y]) o hid (by simpa using hg) hcid hB (by simp) (by simp; omega)
      have hfl : (y :: rest).filter (fun y => !F y) = rest.filter (fun y => !F y) := by simp [hF]
      rw [hfl]
      refine ⟨Z, hZ, ?_⟩
      simp only [List.length_append, List.length_cons, List.length_nil, Int.natCast_add, show ((0 + 1 : Nat) : Int) = 1 from rfl] at hn ⊢
      generalize hX : (K ++ (M ++ y :: rest)).map mvP = X at hget hml hat
      generalize hR : OB.row 2 ((K ++ rest.filter (fun y => !F y) ++ Z).map mvP) = R at hn ⊢
      rw [loopI_eq]
      simp [-St.get, -St.set, r94l0, b94l0, hne, hne2, hget, hgetc, hml, hlt, hge, htn, hat, hcx, hw, get_own, set_own]
      simpa [Int.add_assoc] using hn
    | false =>
      rw [hF] at hcx
      obtain ⟨m, M', hMc⟩ : ∃ m M', M = m :: M' := by cases M with | nil => exact absurd rfl hM | cons m M' => exact ⟨m, M', rfl⟩
      have hrow : ((K ++ (M ++ y :: rest)).map mvP).set K.length (mvP y) = ((K ++ [y]) ++ ((M' ++ [y]) ++ rest)).map mvP := by
        rw [hMc]
        simp
      have hatK : nth ((K ++ (M ++ y :: rest)).map mvP) K.length = some (mvP m) := by rw [hMc]; exact mv_at K m (M' ++ y :: rest)
      have hMl : M.length = M'.length + 1 := by rw [hMc]; simp
      obtain ⟨Z, hZ, hn⟩ := loopDl cf cid B F hc id hci N hN rest (K ++ [y]) (M' ++ [y]) (setS o id (.row 2 (((K ++ [y]) ++ ((M' ++ [y]) ++ rest)).map mvP))) (by rw [setS_len]; exact hid) (by rw [getS_setS hid]) (by rw [setS_len]; exact hcid) (by rw [getS_ne hid hci]; exact hB) (by simp) (by simp; omega)
      rw [setS_setS] at hn
      have hfl : K ++ (y :: rest).filter (fun y => !F y) = (K ++ [y]) ++ rest.filter (fun y => !F y) := by simp [hF]
      rw [hfl]
      refine ⟨Z, hZ, ?_⟩
      have hkk : ((K ++ [y]).length : Int) + ((M' ++ [y]).length : Int) = (K.length : Int) + M.length + 1 := by simp; omega
      have hk1 : ((K ++ [y]).length : Int) = (K.length : Int) + 1 := by simp
      rw [hkk, hk1] at hn
      simp only [mvP] at hrow hatK
      generalize hX : (K ++ (M ++ y :: rest)).map mvP = X at hget hml hat hrow hatK
      generalize hR : OB.row 2 ((K ++ [y] ++ rest.filter (fun y => !F y) ++ Z).map mvP) = R at hn ⊢
      generalize hX2 : (K ++ [y] ++ (M' ++ [y] ++ rest)).map mvP = X2 at hrow hn
      rw [loopI_eq]
      simp [-St.get, -St.set, r94l0, b94l0, hne, hne2, hget, hgetc, hset, hml, hlt, hltK, hge, htn, hat, hatK, hcx, hw, hwK, unAgg, hrow, setS_len, get_own, set_own]
      simpa [Int.add_assoc] using hn
end Go.Am
end
section
set_option maxRecDepth 10000
set_option maxHeartbeats 1000000
set_option linter.unusedSimpArgs false
set_option linter.unusedVariables false
namespace Go.Am
open Go.Proofs Go.Sort Go.Shelf
theorem filter_all {F : Mv → Bool} : ∀ {l : List Mv}, (∀ y ∈ l, F y = false) → l.filter (fun y => !F y) = l
  | [], _ => rfl
  | x :: l, h => by
    have h1 := h x List.mem_cons_self
    simp [h1]
    intro a b hab
    exact h (a, b) (List.mem_cons_of_mem _ hab)
theorem eqDelete (cf : Nat) (cid : Id) (B : List PV) (F : Mv → Bool) (hc : CloOK cf cid B F) (id : Id) (hci : cid ≠ id) (l : List Mv) (o : Stack) (hid : id.1 < o.length) (hg : getS o id = some (.row 2 (l.map mvP))) (hcid : cid.1 < o.length) (hB : getS o cid = some (.box B)) (hN : l.length ≤ 4611686018427387904) :
    (l.filter (fun y => !F y) = l ∧ callI G 94 [.own id l.length, .clo cf [.ref cid 1 0 0]] o = some (.own id l.length, o)) ∨
    callI G 94 [.own id l.length, .clo cf [.ref cid 1 0 0]] o = some (.sl true 2 ((l.filter (fun y => !F y)).map mvP), setS o id .dead) := by
  have hne : ¬ id.1 = o.length := by omega
  have hne2 : ¬ cid.1 = o.length := by omega
  have hix := eqIx cf cid B F hc id l (o ++ [[]]) (by simp; omega) (by rw [getS_app _ _ _ hid]; exact hg) (by simp; omega) (by rw [getS_app _ _ _ hcid]; exact hB) hN
  rw [callI_eq]
  rcases hix with ⟨a, x, b, h1, h2, h3, h4⟩ | ⟨h1, h2⟩
  · refine .inr ?_
    have hll : l.length = a.length + (b.length + 1) := by rw [h1]; simp
    obtain ⟨Z, hZ, hn⟩ := loopDl cf cid B F hc id hci l.length hN b a [x] o hid (by rw [hg, h1]; simp) hcid hB (by simp) (by simp; omega)
    have hK : a ++ b.filter (fun y => !F y) = l.filter (fun y => !F y) := by
      rw [h1, List.filter_append, filter_all h2]; simp [h3]
    rw [hK] at hZ hn
    have hKl : (l.filter (fun y => !F y)).length ≤ l.length := List.length_filter_le _ _
    generalize hKK : l.filter (fun y => !F y) = K at hZ hn hKl ⊢
    obtain ⟨o2, ho2⟩ : ∃ o2, setS o id (.row 2 ((K ++ Z).map mvP)) = o2 := ⟨_, rfl⟩
    rw [ho2] at hn
    have hl2 : o2.length = o.length := by rw [← ho2, setS_len]
    have hget3 : ∀ r l, St.get ⟨r, l, o2⟩ id = some (.row 2 ((K ++ Z).map mvP)) := fun r l => by rw [← ho2, get_low (by rw [setS_len]; exact hid), getS_setS hid]
    have hset3 : ∀ r l R, St.set ⟨r, l, o2⟩ id R = ⟨r, l, setS o id R⟩ := fun r l R => by rw [← ho2, set_low (by rw [setS_len]; exact hid), setS_setS]
    have hset4 : ∀ r l R R', St.set ⟨r, l, setS o id R'⟩ id R = ⟨r, l, setS o id R⟩ := fun r l R R' => by rw [set_low (by rw [setS_len]; exact hid), setS_setS]
    have hget4 : ∀ r l R, St.get ⟨r, l, setS o id R⟩ id = some R := fun r l R => by rw [get_low (by rw [setS_len]; exact hid), getS_setS hid]
    have hKZ : K.length + Z.length = l.length := by omega
    have hKN : l.length = K.length + (l.length - K.length) := by omega
    have hKi : (K.length : Int) ≤ l.length := by omega
    have hw : IntKind.i64.wrap ((a.length : Int) + 1) = (a.length : Int) + 1 := wr (by omega)
    have ha1 : ¬ ((a.length : Int) = -1) := by omega
    simp only [List.length_cons, List.length_nil, Nat.zero_add, show ((1 : Nat) : Int) = 1 from rfl] at hn
    generalize l.length = N at hn h4 hKl hKZ hKN hKi hll hN ⊢
    simp [-St.get, -St.set, body1_eq _ _ (gp 94) g94, c94, a94, hne, hne2, hid, hcid, h4, ha1, hw, hn, hl2, hget3, hset3, hset4, hget4, hKZ, hKi, setS_len, get_setS_top, set_setS_top, get_own, set_own]
    exact hKN
  · refine .inl ⟨filter_all h1, ?_⟩
    simp [-St.get, -St.set, body1_eq _ _ (gp 94) g94, c94, a94, hne, hne2, hid, hcid, h2]
/-! the name of an action; what is hidden -/
def nameI (a : Int) : Int := IntKind.i64.wrap ((if a < IntKind.i64.wrap (0 - a) then IntKind.i64.wrap (0 - a) else a) - 1)
theorem eqNameI (a : Int) : callI G 97 [.i a] [] = some (.i (nameI a), []) := by
  rw [callI_eq]
  simp [body1_eq _ _ (gp 97) g97, c97, a97, nameI]
theorem eqNameS (a : Int) : callI G 92 [.i a] [] = some (.i (nameI a), []) := by
  rw [callI_eq]
  simp [body1_eq _ _ (gp 92) g92, c92, a92, nameI]
def nameOk (n : Int) : Bool := decide (0 ≤ n) && decide (n < 4)
theorem eqNameOk (n : Int) : callI G 93 [.i n] [] = some (.b (nameOk n), []) := by
  rw [callI_eq]
  unfold nameOk
  by_cases h : 0 ≤ n <;> simp [body1_eq _ _ (gp 93) g93, c93, a93, h]
def hidF (n : Int) (x : Mv) : Bool := !decide (x.1 = 0) && decide (nameI x.1 = n)
theorem cloHide (cid : Id) (n : Int) : CloOK 96 cid [.i n] (hidF n) := by
  intro o x hcid hB
  have hne : ¬ cid.1 = o.length := by omega
  have hget : ∀ r l', St.get ⟨r, l', o⟩ cid = some (.box [.i n]) := fun r l' => by rw [get_low hcid, hB]
  have hnm := eqNameI x.1
  unfold hidF
  rw [callI_eq]
  by_cases h : x.1 = 0
  · simp [-St.get, -St.set, body1_eq _ _ (gp 96) g96, c96, a96, hcid, hne, hget, get_own, set_own, hnm, h, mvP]
  · simp [-St.get, -St.set, body1_eq _ _ (gp 96) g96, c96, a96, hcid, hne, hget, get_own, set_own, hnm, h, mvP]
def hideR (n : Int) (l : List Mv) : List Mv := l.filter fun y => !hidF n y
def hideG (n : Int) (g : Gr) : Gr := g.map (hideR n)
end Go.Am
end
section
set_option maxRecDepth 10000
set_option maxHeartbeats 1000000
set_option linter.unusedSimpArgs false
set_option linter.unusedVariables false
namespace Go.Am
open Go.Proofs Go.Sort Go.Shelf
theorem loopGh0 (n : Int) (g : Gr) (h60 : g.length ≤ 60) (hs : SmallG g) : ∀ (rest done : Gr), g = done ++ rest → ∀ Y YL, OwnS 32 1 Y YL (encGs false true (hideG n done)) →
    ∃ Y' YL', OwnS 32 1 Y' YL' (encGs false true (hideG n g)) ∧
    loopI G [3, 4, 6, 20, 21, 22] [3, 4, 18, 32, 35] c39l0 ⟨[(3, .ref (0, 3) 1 0 0), (4, .ref (0, 4) 1 0 0), (6, Y), (20, .sl false 1 (encGs false false g)), (21, .i g.length), (22, .i done.length)], (3, .box [.i n]) :: (4, .box [.nils]) :: YL, []⟩ =
      some (.exit 0, ⟨[(3, .ref (0, 3) 1 0 0), (4, .ref (0, 4) 1 0 0), (6, Y'), (20, .sl false 1 (encGs false false g)), (21, .i g.length), (22, .i g.length), (23, .b false)], (3, .box [.i n]) :: (4, .box [.nils]) :: YL', []⟩)
  | [], done, hd, Y, YL, hY => by
    rw [List.append_nil] at hd
    subst hd
    refine ⟨Y, YL, hY, ?_⟩
    rw [loopI_eq]
    rcases hY with ⟨h1, rfl, rfl⟩ | ⟨h1, rfl, rfl⟩
    · simp [r39l0, b39l0]
    · simp [r39l0, b39l0]
  | x :: rest, done, hd, Y, YL, hY => by
    have hrl : g.length = done.length + (rest.length + 1) := by rw [hd]; simp
    have hlt : (done.length : Int) < g.length := by omega
    have hlt2 : done.length < g.length := by omega
    have hw : IntKind.i64.wrap ((done.length : Int) + 1) = (done.length : Int) + 1 := wr (by omega)
    have hdl : done.length ≤ 4294967295 := by omega
    have hat : nth (encGs false false g) done.length = some (.sl false 2 (x.map mvP)) := by rw [hd]; simpa using gr_at false false done x rest
    have hx : x.length ≤ 1048576 := hs.2 x (by rw [hd]; simp)
    have hcl : cloneMv [.sl false 2 (x.map mvP)] [] = some (.sl true 2 (x.map mvP), []) := by
      have : x.length ≤ 4294967296 := by omega
      simp [cloneMv, this]
    have hnew : encGs false true (hideG n (done ++ [x])) = encGs false true (hideG n done) ++ [.sl true 2 ((hideR n x).map mvP)] := by simp [encGs, hideG]
    have hhl : (hideG n done).length = done.length := by simp [hideG]
    have hYn : OwnS 32 1 (.own (0, 32) (done.length + 1)) [(32, .row 1 (encGs false true (hideG n done) ++ [.sl true 2 ((hideR n x).map mvP)]))] (encGs false true (hideG n (done ++ [x]))) := by
      refine .inr ⟨by rw [hnew]; simp, ?_, ?_⟩
      · rw [hnew]; simp [hhl]
      · rw [hnew]
    obtain ⟨Y', YL', hY', hn⟩ := loopGh0 n g h60 hs rest (done ++ [x]) (by simpa using hd) _ _ hYn
    refine ⟨Y', YL', hY', ?_⟩
    clear hY'
    simp only [List.length_append, List.length_cons, List.length_nil, Int.natCast_add, show ((0 + 1 : Nat) : Int) = 1 from rfl] at hn
    have hEl : (encGs false false g).length = g.length := by simp
    have hns := noShares_mv (hideR n x)
    have hns2 := noShares_mv x
    generalize hE : encGs false false g = E at hat hEl hn ⊢
    rw [loopI_eq]
    rcases hY with ⟨h1, rfl, rfl⟩ | ⟨h1, rfl, rfl⟩
    · have hd0 : done = [] := by cases done with | nil => rfl | cons p q => simp [encGs, hideG] at h1
      subst hd0
      have hlt0 : 0 < g.length := by omega
      have hdel := eqDelete _ (0, 3) _ _ (cloHide (0, 3) n) (0, 28) (by decide) x [[(3, .box [.i n]), (4, .box [.nils]), (28, .row 2 (x.map mvP))]] (by simp) (by simp [getS, getO]) (by simp) (by simp [getS, getO]) (by omega)
      simp [setS, setO] at hdel
      simp [hideG, encGs] at hn hat
      rcases hdel with ⟨q1, hdel⟩ | hdel
      · have hq : hideR n x = x := by
          unfold hideR
          exact filter_all (fun y hy => by simpa using q1 y.1 y.2 hy)
        rw [hq] at hn
        simp [r39l0, b39l0, hlt, hlt2, hlt0, hw, hat, hEl, wr1, eqCloneM, hcl, hdel, hns, hns2]
        exact hn
      · simp [r39l0, b39l0, hlt, hlt2, hlt0, hw, hat, hEl, wr1, eqCloneM, hcl, hdel, hns, hns2]
        exact hn
    · have hdel := eqDelete _ (0, 3) _ _ (cloHide (0, 3) n) (0, 28) (by decide) x [[(3, .box [.i n]), (4, .box [.nils]), (32, .row 1 (encGs false true (hideG n done))), (28, .row 2 (x.map mvP))]] (by simp) (by simp [getS, getO]) (by simp) (by simp [getS, getO]) (by omega)
      simp [setS, setO] at hdel
      generalize hD : encGs false true (hideG n done) = D at *
      have hDl : D.length = done.length := by rw [← hD]; simp [hhl]
      rw [hDl]
      rcases hdel with ⟨q1, hdel⟩ | hdel
      · have hq : hideR n x = x := by
          unfold hideR
          exact filter_all (fun y hy => by simpa using q1 y.1 y.2 hy)
        rw [hq] at hn
        simp [r39l0, b39l0, hlt, hlt2, hw, hat, hEl, eqCloneM, hcl, hdel, hns, hns2, hDl, hdl]
        exact hn
      · simp [r39l0, b39l0, hlt, hlt2, hw, hat, hEl, eqCloneM, hcl, hdel, hns, hns2, hDl, hdl]
        exact hn
theorem hideG_to {n : Int} {g : Gr} (h : OkTo g) : OkTo (hideG n g) := by
  intro l hl m hm
  have hn : (hideG n g).length = g.length := by simp [hideG]
  rw [hn]
  simp only [hideG, List.mem_map] at hl
  obtain ⟨r, hr, rfl⟩ := hl
  exact h r hr m (List.mem_filter.1 hm).1
theorem hideG_small {n : Int} {g : Gr} (h : SmallG g) : SmallG (hideG n g) := by
  refine ⟨by simpa [hideG] using h.1, fun l hl => ?_⟩
  simp only [hideG, List.mem_map] at hl
  obtain ⟨r, hr, rfl⟩ := hl
  exact Nat.le_trans (List.length_filter_le _ _) (h.2 r hr)
def graphHide (g : Gr) (n : Int) : Gr × Bool := if grOk g && nameOk n then made (hideG n g) else ([], false)
theorem eqGraphHideI (g : Gr) (hs : SmallG g) (hf : FitG g) (n : Int) : callI G 39 [encG false false g, .i n] [] = some (.tup [encG true true (graphHide g n).1, .b (graphHide g n).2], []) := by
  have h1 := eqNameOk n
  have h2 := eqOkI g hf
  simp only [encG, encM_f] at h2 ⊢
  rw [callI_eq]
  by_cases c2 : grOk g = true
  · by_cases c1 : nameOk n = true
    · obtain ⟨q1, q2, q3⟩ := grOk_to c2
      obtain ⟨Y, YL, hY, l0⟩ := loopGh0 n g q3 hs g [] rfl .nils [] (.inl ⟨rfl, rfl, rfl⟩)
      have hal : (hideG n g).length = g.length := by simp [hideG]
      have hp := eqPartOf _ (hideG n g) (encR_G false false _) (hideG_to q1) (hideG_small hs) (by omega)
      have hga : graphHide g n = made (hideG n g) := by simp [graphHide, c1, c2]
      rw [hga]
      generalize hm : made (hideG n g) = m at hp ⊢
      obtain ⟨mg, mb⟩ := m
      simp only [encG] at hp ⊢
      simp only [List.length_nil, show ((0 : Nat) : Int) = 0 from rfl] at l0
      have efl : fals (encGs false true (hideG n g)) = encGs false false (hideG n g) := fals_encGs _ _ _
      have hns := noShares_encGs true mg
      have hne : encGs false true (hideG n g) ≠ [] := by
        intro e
        have := congrArg List.length e
        rw [encGs_len, hal] at this
        simp at this
        rw [this] at q2; simp at q2
      rcases hY with ⟨e, _⟩ | ⟨_, rfl, rfl⟩
      · exact absurd e hne
      rcases encM_two true true mg with ⟨e, _⟩ | e
      · rw [e] at hp ⊢
        simp [body1_eq _ _ (gp 39) g39, c39, a39, h1, h2, c1, c2, l0, hal, efl, hp, hns]
      · rw [e] at hp ⊢
        simp [body1_eq _ _ (gp 39) g39, c39, a39, h1, h2, c1, c2, l0, hal, efl, hp, hns]
    · have c1 : nameOk n = false := by simpa using c1
      have hga : graphHide g n = ([], false) := by simp [graphHide, c1]
      rw [hga]
      simp [body1_eq _ _ (gp 39) g39, c39, a39, h1, h2, c1, c2]
  · have c2 : grOk g = false := by simpa using c2
    have hga : graphHide g n = ([], false) := by simp [graphHide, c2]
    rw [hga]
    simp [body1_eq _ _ (gp 39) g39, c39, a39, h2, c2]
end Go.Am
end
section
set_option maxRecDepth 10000
set_option maxHeartbeats 1000000
set_option linter.unusedSimpArgs false
set_option linter.unusedVariables false
namespace Go.Am
open Go.Proofs Go.Sort Go.Shelf
theorem loopHs0 (n : Int) (E : List PV) (g : Gr) (hE : EncR false E g) (Y : PV) (YL : Objs) (xs : List PV) (hY : OwnS 65 1 Y YL xs) (j : Nat) (hj : j < g.length) (hjb : j ≤ 1048576) (L : List Mv) (hL : g.getD j [] = L) (hLl : L.length ≤ 1048576) : ∀ (rest done : List Mv), L = done ++ rest →
    loopI G [1, 2, 4, 6, 7, 8, 9] [2, 4, 6, 28, 60, 65, 68] c38l0 ⟨[(1, .i n), (2, .ref (0, 2) 1 0 0), (4, .ref (0, 4) 1 0 0), (6, .ref (0, 6) 1 0 0), (7, .i j), (8, owP 60 (hideR n done)), (9, .i done.length)], (2, .box [PV.sl false 1 E]) :: (4, .box [.nils]) :: (6, .box [Y]) :: (owL 60 (hideR n done) ++ YL), []⟩ =
      some (.exit 2, ⟨[(1, .i n), (2, .ref (0, 2) 1 0 0), (4, .ref (0, 4) 1 0 0), (6, .ref (0, 6) 1 0 0), (7, .i j), (8, owP 60 (hideR n L)), (9, .i L.length), (36, .b false)], (2, .box [PV.sl false 1 E]) :: (4, .box [.nils]) :: (6, .box [Y]) :: (owL 60 (hideR n L) ++ YL), []⟩)
  | [], done, hd => by
    rw [List.append_nil] at hd
    subst hd
    have hEl := hE.1
    obtain ⟨nl, hat⟩ := hE.2 j hj
    rw [hL] at hat
    have hji : (j : Int) < g.length := by omega
    clear hE
    rw [loopI_eq]
    rcases encL_two nl false L with ⟨e, e2⟩ | e
    · rw [e] at hat
      subst e2
      rcases hY with ⟨rfl, rfl, rfl⟩ | ⟨hxs, rfl, rfl⟩
      · simp [r38l0, b38l0, hEl, hj, hji, hat, hideR]
      · simp [r38l0, b38l0, hEl, hj, hji, hat, hideR]
    · rw [e] at hat
      by_cases hd : hideR n L = []
      · rw [hd]
        rcases hY with ⟨rfl, rfl, rfl⟩ | ⟨hxs, rfl, rfl⟩
        · simp [r38l0, b38l0, hEl, hj, hji, hat]
        · simp [r38l0, b38l0, hEl, hj, hji, hat]
      · rw [owP_ne hd, owL_ne hd]
        rcases hY with ⟨rfl, rfl, rfl⟩ | ⟨hxs, rfl, rfl⟩
        · simp [r38l0, b38l0, hEl, hj, hji, hat]
        · simp [r38l0, b38l0, hEl, hj, hji, hat]
  | m :: rest, done, hd => by
    have hEl := hE.1
    obtain ⟨nl, hat⟩ := hE.2 j hj
    rw [hL] at hat
    have hji : (j : Int) < g.length := by omega
    have hen : encL nl false L = .sl false 2 (L.map mvP) := encL_ne (by rw [hd]; simp)
    rw [hen] at hat
    have hLl2 : L.length = done.length + (rest.length + 1) := by rw [hd]; simp
    have hlt : (done.length : Int) < L.length := by omega
    have hlt2 : done.length < L.length := by omega
    have hw : IntKind.i64.wrap ((done.length : Int) + 1) = (done.length : Int) + 1 := wr (by omega)
    have hhl : (hideR n done).length ≤ done.length := List.length_filter_le _ _
    have hdl : (hideR n done).length ≤ 4294967295 := by omega
    have hat2 : nth (L.map mvP) done.length = some (mvP m) := by rw [hd]; exact mv_at done m rest
    have hnm := eqNameS m.1
    have hn := loopHs0 n E g hE Y YL xs hY j hj hjb L hL hLl rest (done ++ [m]) (by simpa using hd)
    have hml : (L.map mvP).length = L.length := by simp
    have hh : hideR n (done ++ [m]) = if hidF n m = true then hideR n done else hideR n done ++ [m] := by
      simp only [hideR, List.filter_append]
      cases hv : hidF n m <;> simp [List.filter, hv]
    rw [hh] at hn
    simp only [List.length_append, List.length_cons, List.length_nil, Int.natCast_add, show ((0 + 1 : Nat) : Int) = 1 from rfl] at hn
    clear hE hh
    generalize hM : L.map mvP = M at hat hat2 hml
    generalize hH : hideR n done = H at hn hdl ⊢
    generalize hH2 : hideR n L = H2 at hn ⊢
    simp only [mvP] at hat2
    rw [loopI_eq]
    have hkey : (hidF n m = true ∧ m.1 ≠ 0 ∧ nameI m.1 = n) ∨ (hidF n m = false ∧ (m.1 = 0 ∨ (m.1 ≠ 0 ∧ ¬ nameI m.1 = n))) := by
      unfold hidF
      by_cases c1 : m.1 = 0
      · simp [c1]
      · by_cases c2 : nameI m.1 = n <;> simp [c1, c2]
    rcases hkey with ⟨k1, k2, k3⟩ | ⟨k1, k2⟩
    · simp only [k1, if_true] at hn
      rcases hY with ⟨rfl, rfl, rfl⟩ | ⟨hxs, rfl, rfl⟩
      · by_cases hdn : H = []
        · subst hdn
          simp at hn
          simp [r38l0, b38l0, hEl, hj, hji, hat, hat2, hml, hlt, hlt2, unAgg, hw, hnm, k2, k3]
          exact hn
        · rw [owP_ne hdn, owL_ne hdn] at hn ⊢
          simp at hn
          simp [r38l0, b38l0, hEl, hj, hji, hat, hat2, hml, hlt, hlt2, unAgg, hw, hnm, k2, k3]
          exact hn
      · by_cases hdn : H = []
        · subst hdn
          simp at hn
          simp [r38l0, b38l0, hEl, hj, hji, hat, hat2, hml, hlt, hlt2, unAgg, hw, hnm, k2, k3]
          exact hn
        · rw [owP_ne hdn, owL_ne hdn] at hn ⊢
          simp at hn
          simp [r38l0, b38l0, hEl, hj, hji, hat, hat2, hml, hlt, hlt2, unAgg, hw, hnm, k2, k3]
          exact hn
    · simp only [k1, Bool.false_eq_true, if_false] at hn
      rcases hY with ⟨rfl, rfl, rfl⟩ | ⟨hxs, rfl, rfl⟩
      · by_cases hdn : H = []
        · subst hdn
          simp [mvP] at hn
          rcases k2 with k2 | ⟨k2, k3⟩
          · rw [k2] at hat2 hn
            simp [r38l0, b38l0, hEl, hj, hji, hat, hat2, hml, hlt, hlt2, unAgg, hw, k2]
            exact hn
          · simp [r38l0, b38l0, hEl, hj, hji, hat, hat2, hml, hlt, hlt2, unAgg, hw, hnm, k2, k3]
            exact hn
        · rw [owP_ne hdn, owL_ne hdn]
          simp [mvP] at hn
          rcases k2 with k2 | ⟨k2, k3⟩
          · rw [k2] at hat2 hn
            simp [r38l0, b38l0, hEl, hj, hji, hat, hat2, hml, hlt, hlt2, unAgg, hw, hdl, k2]
            exact hn
          · simp [r38l0, b38l0, hEl, hj, hji, hat, hat2, hml, hlt, hlt2, unAgg, hw, hdl, hnm, k2, k3]
            exact hn
      · by_cases hdn : H = []
        · subst hdn
          simp [mvP] at hn
          rcases k2 with k2 | ⟨k2, k3⟩
          · rw [k2] at hat2 hn
            simp [r38l0, b38l0, hEl, hj, hji, hat, hat2, hml, hlt, hlt2, unAgg, hw, k2]
            exact hn
          · simp [r38l0, b38l0, hEl, hj, hji, hat, hat2, hml, hlt, hlt2, unAgg, hw, hnm, k2, k3]
            exact hn
        · rw [owP_ne hdn, owL_ne hdn]
          simp [mvP] at hn
          rcases k2 with k2 | ⟨k2, k3⟩
          · rw [k2] at hat2 hn
            simp [r38l0, b38l0, hEl, hj, hji, hat, hat2, hml, hlt, hlt2, unAgg, hw, hdl, k2]
            exact hn
          · simp [r38l0, b38l0, hEl, hj, hji, hat, hat2, hml, hlt, hlt2, unAgg, hw, hdl, hnm, k2, k3]
            exact hn
end Go.Am
end
section
set_option maxRecDepth 10000
set_option maxHeartbeats 1000000
set_option linter.unusedSimpArgs false
set_option linter.unusedVariables false
namespace Go.Am
open Go.Proofs Go.Sort Go.Shelf
theorem loopHs1 (n : Int) (E : List PV) (g : Gr) (hE : EncR false E g) (h60 : g.length ≤ 60) (hs : SmallG g) : ∀ (rest done : Gr), g = done ++ rest → ∀ Y YL, OwnS 65 1 Y YL (encGs true true (hideG n done)) →
    ∃ Y' YL', OwnS 65 1 Y' YL' (encGs true true (hideG n g)) ∧
    loopI G [1, 2, 4, 6, 7] [2, 4, 6, 65, 68] c38l1 ⟨[(1, .i n), (2, .ref (0, 2) 1 0 0), (4, .ref (0, 4) 1 0 0), (6, .ref (0, 6) 1 0 0), (7, .i done.length)], (2, .box [PV.sl false 1 E]) :: (4, .box [.nils]) :: (6, .box [Y]) :: YL, []⟩ =
      some (.exit 0, ⟨[(1, .i n), (2, .ref (0, 2) 1 0 0), (4, .ref (0, 4) 1 0 0), (6, .ref (0, 6) 1 0 0), (7, .i g.length), (25, .b false)], (2, .box [PV.sl false 1 E]) :: (4, .box [.nils]) :: (6, .box [Y']) :: YL', []⟩)
  | [], done, hd, Y, YL, hY => by
    rw [List.append_nil] at hd
    subst hd
    refine ⟨Y, YL, hY, ?_⟩
    rw [loopI_eq]
    rcases hY with ⟨h1, rfl, rfl⟩ | ⟨h1, rfl, rfl⟩
    · simp [r38l1, b38l1, hE.1]
    · simp [r38l1, b38l1, hE.1]
  | x :: rest, done, hd, Y, YL, hY => by
    have hEl := hE.1
    have hrl : g.length = done.length + (rest.length + 1) := by rw [hd]; simp
    have hlt : (done.length : Int) < g.length := by omega
    have hlt2 : done.length < g.length := by omega
    have hw : IntKind.i64.wrap ((done.length : Int) + 1) = (done.length : Int) + 1 := wr (by omega)
    have hdl : done.length ≤ 4294967295 := by omega
    have hx : x.length ≤ 1048576 := hs.2 x (by rw [hd]; simp)
    have hgd : g.getD done.length [] = x := by rw [hd]; simp
    have h0 := loopHs0 n E g hE Y YL _ hY done.length hlt2 (by omega) x hgd hx x [] rfl
    have hr0 : hideR n [] = [] := rfl
    simp only [List.length_nil, show ((0 : Nat) : Int) = 0 from rfl, hr0, owP_n, owL_n, List.nil_append] at h0
    have hnew : encGs true true (hideG n (done ++ [x])) = encGs true true (hideG n done) ++ [encL true true (hideR n x)] := by simp [encGs, hideG]
    have hhl : (hideG n done).length = done.length := by simp [hideG]
    have hYn : OwnS 65 1 (.own (0, 65) (done.length + 1)) [(65, .row 1 (encGs true true (hideG n done) ++ [encL true true (hideR n x)]))] (encGs true true (hideG n (done ++ [x]))) := by
      refine .inr ⟨by rw [hnew]; simp, ?_, ?_⟩
      · rw [hnew]; simp [hhl]
      · rw [hnew]
    obtain ⟨Y', YL', hY', hn⟩ := loopHs1 n E g hE h60 hs rest (done ++ [x]) (by simpa using hd) _ _ hYn
    refine ⟨Y', YL', hY', ?_⟩
    clear hY' hE
    simp only [List.length_append, List.length_cons, List.length_nil, Int.natCast_add, show ((0 + 1 : Nat) : Int) = 1 from rfl] at hn
    have hns := noShares_mv (hideR n x)
    have hDl : (encGs true true (hideG n done)).length = done.length := by simp [hhl]
    have hd0 : encGs true true (hideG n done) = [] → done = [] := fun e => by
      have := congrArg List.length e
      rw [hDl] at this
      exact List.length_eq_zero_iff.1 this
    generalize hD : encGs true true (hideG n done) = D at hY hn hDl hd0 h0
    generalize hH : hideR n x = H at hn h0 hns
    rw [loopI_eq]
    by_cases hHe : H = []
    · subst hHe
      simp only [owP_n, owL_n, List.nil_append, encL_n] at h0 hn
      rcases hY with ⟨h1, rfl, rfl⟩ | ⟨h1, rfl, rfl⟩
      · have hd1 := hd0 h1
        subst hd1
        subst h1
        have hlt0 : 0 < g.length := by omega
        simp at h0 hn
        simp [r38l1, b38l1, hlt, hlt2, hlt0, hw, hEl, h0, wr1]
        exact hn
      · rw [hDl] at h0
        simp [r38l1, b38l1, hlt, hlt2, hw, hEl, h0, hDl, hdl]
        exact hn
    · have he : encL true true H = .sl true 2 (H.map mvP) := encL_ne hHe
      rw [he] at hn
      rw [owP_ne hHe, owL_ne hHe] at h0
      rcases hY with ⟨h1, rfl, rfl⟩ | ⟨h1, rfl, rfl⟩
      · have hd1 := hd0 h1
        subst hd1
        subst h1
        have hlt0 : 0 < g.length := by omega
        simp at h0 hn
        simp [r38l1, b38l1, hlt, hlt2, hlt0, hw, hEl, h0, hns, wr1]
        exact hn
      · rw [hDl] at h0
        simp at h0
        simp [r38l1, b38l1, hlt, hlt2, hw, hEl, h0, hns, hDl, hdl]
        exact hn
theorem eqGraphHideS (g : Gr) (hs : SmallG g) (hf : FitG g) (n : Int) : callI G 38 [encG false false g, .i n] [] = some (.tup [encG true true (graphHide g n).1, .b (graphHide g n).2], []) := by
  have h1 := l6In n 0 3
  have h2 := eqOkS g hf
  have hno : nameOk n = (decide (0 ≤ n) && decide (n ≤ 3)) := by
    unfold nameOk
    have : decide (n < 4) = decide (n ≤ 3) := by apply decide_eq_decide.2; omega
    rw [this]
  rw [← hno] at h1
  simp only [encG, encM_f] at h2 ⊢
  rw [callI_eq]
  by_cases c2 : grOk g = true
  · by_cases c1 : nameOk n = true
    · obtain ⟨q1, q2, q3⟩ := grOk_to c2
      obtain ⟨Y, YL, hY, l0⟩ := loopHs1 n _ g (encR_G false false g) q3 hs g [] rfl .nils [] (.inl ⟨rfl, rfl, rfl⟩)
      have hal : (hideG n g).length = g.length := by simp [hideG]
      have hm := eqMade _ (hideG n g) (encR_G true false _) (hideG_to q1) (hideG_small hs) (by omega)
      have hga : graphHide g n = made (hideG n g) := by simp [graphHide, c1, c2]
      rw [hga]
      generalize hmm : made (hideG n g) = m at hm ⊢
      obtain ⟨mg, mb⟩ := m
      simp only [encG] at hm ⊢
      simp only [List.length_nil, show ((0 : Nat) : Int) = 0 from rfl] at l0
      have efl : fals (encGs true true (hideG n g)) = encGs true false (hideG n g) := fals_encGs _ _ _
      have hns := noShares_encGs true mg
      have hns2 := noShares_encGs true (hideG n g)
      have hne : encGs true true (hideG n g) ≠ [] := by
        intro e
        have := congrArg List.length e
        rw [encGs_len, hal] at this
        simp at this
        rw [this] at q2; simp at q2
      rcases hY with ⟨e, _⟩ | ⟨_, rfl, rfl⟩
      · exact absurd e hne
      rcases encM_two true true mg with ⟨e, _⟩ | e
      · rw [e] at hm ⊢
        simp [body1_eq _ _ (gp 38) g38, c38, a38, h1, h2, c1, c2, l0, hal, efl, hm, hns, hns2]
      · rw [e] at hm ⊢
        simp [body1_eq _ _ (gp 38) g38, c38, a38, h1, h2, c1, c2, l0, hal, efl, hm, hns, hns2]
    · have c1 : nameOk n = false := by simpa using c1
      have hga : graphHide g n = ([], false) := by simp [graphHide, c1]
      rw [hga]
      simp [body1_eq _ _ (gp 38) g38, c38, a38, h1, h2, c1, c2]
  · have c2 : grOk g = false := by simpa using c2
    have hga : graphHide g n = ([], false) := by simp [graphHide, c2]
    rw [hga]
    simp [body1_eq _ _ (gp 38) g38, c38, a38, h2, c2]
end Go.Am
end
section
set_option maxRecDepth 10000
set_option maxHeartbeats 2000000
set_option linter.unusedSimpArgs false
set_option linter.unusedVariables false
namespace Go.Am
open Go.Proofs Go.Sort Go.Shelf
theorem graphHide_small {n : Int} {g : Gr} (h : SmallG g) : SmallG (graphHide g n).1 := by
  unfold graphHide
  split
  · rename_i hc
    simp only [Bool.and_eq_true] at hc
    exact made_small (hideG_small h)
  · exact ⟨by simp, fun l hl => by cases hl⟩
theorem lawGraphHide (g : Gr) (hf : FitG g) (n : Int) : callI G 7 [encG false false g, .i n] [] = some (.b true, []) := by
  have h1 := eqSzG g hf
  rw [callI_eq]
  by_cases hs : szG g 1048576 < 0
  · simp only [encG, encM_f, hs, if_true] at h1 ⊢
    simp [body1_eq _ _ (gp 7) g7, c7, a7, h1]
  · have hsm := szG_small hs
    have ht := eqToG g hsm
    have hS := eqGraphHideS g hsm hf n
    have hI := eqGraphHideI g hsm hf n
    have hE0 := eqEqG false false g g hf
    have hr := graphHide_small (n := n) hsm
    generalize hR : graphHide g n = R at hS hI hr
    obtain ⟨q, b⟩ := R
    have hrc := SmallG.cnt hr
    simp only at hrc
    have hgc := SmallG.cnt hsm
    have hcp := cntG_pos g
    have hcq := cntG_pos q
    have hEq := eqEqG true true q q hr.fit
    have hH := eqHlG true q 1 (by have := hr.1; simp only at this; omega) (by omega) (by omega)
    have hMg := fun (Lo : Objs) (h : getO Lo 29 = some (.row 1 (encGs false true g))) => eqMkG false g 1 [Lo] (0, 29) (by simp) h (by have := hsm.1; omega) (by omega) (by omega)
    have hMq := fun (Lo : Objs) (h : getO Lo 33 = some (.row 1 (encGs true true q))) => eqMkG true q 1 [Lo] (0, 33) (by simp) h (by have := hr.1; simp only at this; omega) (by omega) (by omega)
    simp only [show ∀ (Lo : Objs) (d : Nat) (ob : OB), setS [Lo] (0, d) ob = [setO Lo d ob] from fun _ _ _ => rfl] at hMg hMq
    have hns := noShares_encGs true q
    have hns2 := noShares_encGs false g
    have hfl : fals (encGs false true g) = encGs false false g := fals_encGs _ _ _
    have hflq : fals (encGs true true q) = encGs true false q := fals_encGs _ _ _
    have hflm : ∀ k, fals (encGs true true (mkG k q)) = encGs true false (mkG k q) := fun k => fals_encGs _ _ _
    have hk : ¬ (1 + 2 * cntG g < 0) := by omega
    have hk2 : ¬ (1 + 2 * cntG q < 0) := by omega
    simp only [decide_true] at hE0 hEq
    simp only [encG, encM_f, hs, if_false] at h1 ht hS hI hE0 hEq hH ⊢
    rcases encM_two true true q with ⟨e, e2⟩ | e
    · subst e2
      have hM := eqMkGN 1
      simp only [encM_n, mkG, cntG, Int.mul_zero, Int.add_zero] at hS hI hEq hH
      simp [body1_eq _ _ (gp 7) g7, c7, a7, h1, hs, ht, hS, hI, hE0, hEq, hH, hM, hfl, hns2, hk, hMg]
    · have hqn : q ≠ [] := by intro e3; rw [e3] at e; cases e
      have eF : encM' true false q = .sl false 1 (encGs true false q) := encM_ne hqn
      have eM : encM' true false (mkG 1 q) = .sl false 1 (encGs true false (mkG 1 q)) := encM_ne (mkG_ne hqn)
      rw [e] at hS hI
      rw [eF] at hEq
      rw [eM] at hH
      simp [body1_eq _ _ (gp 7) g7, c7, a7, h1, hs, ht, hS, hI, hE0, hEq, hH, hfl, hflq, hflm, hns, hns2, hk, hk2, hMg, hMq]
end Go.Am
end
