/- How graphs are laid, compared, marked, checked and tidied. -/
import Derived.Test.YtlldnglfoajfcaaAnD
import Derived.Shelf.SlSortCmp.NoneTotal
import Derived.Shelf.SlLaysF0
import Derived.Shelf.SlGeneric
import Derived.Ground.SlsfProg
import Derived.Test.YtlldnglfoajfcaaProg
import Derived.Test.YtlldnglfoajfcaaGtB
import Derived.IntWalk
section
/- slices.SortFunc at pairs of numbers, by the library's contract. -/
set_option linter.unusedSimpArgs false
set_option linter.unusedVariables false
namespace Go.Am
open Go.RowKit Go.Shelf Go.Lib Go.Sort Go.Proofs
def mvP (x : Int × Int) : PV := .agg [.i x.1, .i x.2]
def encM (x : Int × Int) : List Value := [.int .i64 x.1, .int .i64 x.2]
def unM : PV → Option (Int × Int)
  | .agg [.sc (.int .i64 a), .sc (.int .i64 b)] => some (a, b)
  | _ => none
def unMs : List PV → Option (List (Int × Int))
  | [] => some []
  | x :: xs => match unM x, unMs xs with | some a, some r => some (a :: r) | _, _ => none
theorem unM_eq {x : PV} {a : Int × Int} (h : unM x = some a) : x = mvP a := by
  unfold unM at h
  split at h
  · simp only [Option.some.injEq] at h; subst h; rfl
  · cases h
theorem unMs_eq : ∀ {xs : List PV} {ds : List (Int × Int)}, unMs xs = some ds → xs = ds.map mvP
  | [], _, h => by simp only [unMs, Option.some.injEq] at h; subst h; rfl
  | x :: xs, _, h => by
    simp only [unMs] at h
    split at h
    · rename_i a r h1 h2
      simp only [Option.some.injEq] at h
      subst h
      rw [List.map_cons, ← unM_eq h1, ← unMs_eq h2]
    · cases h
@[simp] theorem unM_mvP (a : Int × Int) : unM (mvP a) = some a := rfl
@[simp] theorem unMs_map : ∀ ds : List (Int × Int), unMs (ds.map mvP) = some ds
  | [] => rfl
  | a :: ds => by simp [unMs, unMs_map ds]
/-- What a sort by a comparing function does. -/
def sortP (g : Nat) (lt : Int × Int → Int × Int → Bool) : List PV → Stack → Option (PV × Stack)
  | [.nils, .clo g' []], o => if g' = g then some (.tup [], o) else none
  | [.own id n, .clo g' []], o => if g' = g ∧ n < 4611686018427387904 then match getS o id with
      | some (.row k xs) => if k = 2 ∧ n = xs.length then match unMs xs with
          | some ds => some (.tup [], setS o id (.row 2 ((ds.mergeSort fun x y => !lt y x).map mvP)))
          | none => none
        else none
      | _ => none
    else none
  | _, _ => none
theorem Rs_mv {c : Ctx} {S : Sto} {h : Hp} : ∀ {ds : List (Int × Int)} {vs : List Value} {f : List Nat}, Rs c S h (ds.map mvP) vs f ↔ vs = ds.flatMap encM ∧ f = []
  | [], vs, f => Iff.rfl
  | a :: ds, vs, f => by
    constructor
    · rintro ⟨v1, v2, f1, f2, rfl, rfl, r1, r2⟩
      obtain ⟨rfl, rfl⟩ := Rs_mv.1 r2
      obtain ⟨_, u1, u2, g1, g2, rfl, rfl, ⟨rfl, rfl, _⟩, u3, u4, g3, g4, rfl, rfl, ⟨rfl, rfl, _⟩, rfl, rfl⟩ := r1
      exact ⟨rfl, rfl⟩
    · rintro ⟨rfl, rfl⟩
      refine ⟨encM a, ds.flatMap encM, [], [], rfl, rfl, ⟨rfl, [.int .i64 a.1], [.int .i64 a.2], [], [], rfl, rfl, ⟨rfl, rfl, rfl⟩, [.int .i64 a.2], [], [], [], rfl, rfl, ⟨rfl, rfl, rfl⟩, rfl, rfl⟩, Rs_mv.2 ⟨rfl, rfl⟩⟩
theorem flat_at : ∀ (ds : List (Int × Int)) (j : Nat), j < ds.length * 2 → (ds.flatMap encM)[j]? = some (encM ds.toArray[j / 2]!)[j % 2]!
  | [], j, h => by simp at h
  | a :: ds, 0, h => by simp [encM]
  | a :: ds, 1, h => by simp [encM]
  | a :: ds, j + 2, h => by
    simp only [List.length_cons] at h
    have ih := flat_at ds j (by omega)
    have e1 : (j + 2) / 2 = j / 2 + 1 := by omega
    have e2 : (j + 2) % 2 = j % 2 := by omega
    simp only [List.flatMap_cons]
    rw [List.getElem?_append_right (by simp [encM]), e1, e2]
    simp only [show (encM a).length = 2 from rfl, Nat.add_sub_cancel, ih]
    congr 2
    have : j / 2 < ds.length := by omega
    simp [this]
theorem flat_len (ds : List (Int × Int)) : (ds.flatMap encM).length = ds.length * 2 := by
  induction ds with
  | nil => rfl
  | cons a ds ih => simp [encM, ih]; omega
section
variable {P : Program}
theorem isGo.enters {f : Nat} (hgo : isGo P f) : ∀ args w, (callFunc f args).run P w = .ok (.enter f args) w := by
  intro args w
  obtain ⟨fn, h1, h2, h3⟩ := hgo
  have h4 : fn.body.isNone = false := by cases hb : fn.body <;> simp [hb] at h2 ⊢
  have h5 : ¬ fn.body = none := fun h => by rw [h] at h2; cases h2
  simp [callFunc, h1, h3, h4, h5]
theorem grown_of {W w' : World} (hg : Grew W w') (hb : ∀ b o, hp W b = some o → hp w' b = some o) : ∃ q os', w' = grow (W.drewN q) os' := by
  refine ⟨w'.drawn - W.drawn, w'.heap.extract W.heap.size w'.heap.size, ?_⟩
  have h1 := hg.os; have h2 := hg.tape; have h3 := hg.output; have h4 := hg.size; have h5 := hg.dr
  have hh : w'.heap = W.heap ++ w'.heap.extract W.heap.size w'.heap.size := by
    apply Array.ext_getElem?
    intro i
    by_cases hi : i < W.heap.size
    · rw [Array.getElem?_append_left hi]
      have := hb i W.heap[i] (by simp [hp, hi])
      simp only [hp] at this
      rw [this]; simp [hi]
    · rw [Array.getElem?_append_right (by omega)]
      simp only [Array.getElem?_extract]
      split
      · congr 1; omega
      · rw [Array.getElem?_eq_none (by omega)]
  have hd : w'.drawn = W.drawn + (w'.drawn - W.drawn) := by omega
  cases w'; cases W
  simp only [grow, World.drewN] at *
  subst h1 h2 h3
  congr 1
theorem lays_of {g : Nat} {x y : Int × Int} {r : Int} (hg : Good P g [mvP x, mvP y] [] (.i r) []) (W : World) :
    Calls P g #[.agg (encM x).toArray, .agg (encM y).toArray] W fun e w' => e = .returned (.int .i64 r) ∧ ∃ q os', w' = grow (W.drewN q) os' := by
  have hv : ∀ z : Int × Int, RVal (cAll W) (gt []) (hp W) (mvP z) (.agg (encM z).toArray) := fun z => ⟨encM z, rfl, rfl, ⟨[.int .i64 z.1], [.int .i64 z.2], [], [], rfl, rfl, ⟨rfl, rfl, rfl⟩, [.int .i64 z.2], [], [], [], rfl, rfl, ⟨rfl, rfl, rfl⟩, rfl, rfl⟩⟩
  refine (hg.2 (cAll W) (fun _ => []) W _ (cAll_ok W) ⟨_, _, rfl, hv x, _, _, rfl, hv y, rfl⟩).mono fun e w' hend => ?_
  obtain ⟨_, v, c', fp', f', rfl, hgw, hst, hadv, hfr, hret⟩ := hend
  have hv' : v = .int .i64 r := by
    have h : [v] = [Value.int .i64 r] := hret.2.1
    simpa using h
  subst hv'
  exact ⟨rfl, grown_of hgw fun b o hb => hst.okF b o (.inl (hadv.F b o hb))⟩
theorem sortP_good {ρ : Ren} (L : SlLaysF0.n6 P ρ) (aE : ∀ w, (isAgg (ρ.t 24)).run P w = .ok true w) (zE : ∀ w, (Go.sizeOf (ρ.t 24)).run P w = .ok 2 w) (hgo : isGo P (ρ.f 6)) {g : Nat} {cf : Int × Int → Int × Int → Int} (hO : SWO (ltOf cf))
    (hT : ∀ x y, (ltOf cf) x y = false → (ltOf cf) y x = false → x = y) (hc : ∀ x y, Good P g [mvP x, mvP y] [] (.i (cf x y)) []) {args : List PV} {o o' : Stack} {r : PV} (e : sortP g (ltOf cf) args o = some (r, o')) : Good P (ρ.f 6) args o r o' := by
  refine ⟨hgo, fun c fp w vals ok hr => ?_⟩
  unfold sortP at e
  split at e
  · -- nil
    rename_i g'
    split at e
    · rename_i hg
      subst hg
      simp only [Option.some.injEq, Prod.mk.injEq] at e
      obtain ⟨rfl, rfl⟩ := e
      obtain ⟨v, _, rfl, ⟨_, A, hv⟩, u, _, rfl, ⟨_, cv, hu, _, hcv⟩, rfl⟩ := hr
      have hv : v = .slice A 0 0 := by simpa using hv
      subst hv
      refine (AnyF.slices_SortFunc_none L A 0 u w).mono fun e w' hend => ?_
      obtain ⟨rfl, rfl⟩ := hend
      exact ⟨⟨rfl, fun id ob h => ⟨ob, h⟩⟩, _, c, fp, [], rfl, Grew.refl _, ok, Adv.refl _ _, Free.nil, [], rfl, rfl, rfl⟩
    · cases e
  · -- a row
    rename_i id n g'
    split at e
    · rename_i hg
      obtain ⟨rfl, hn⟩ := hg
      split at e
      · rename_i k xs hs
        split at e
        · rename_i hk
          obtain ⟨rfl, rfl⟩ := hk
          split at e
          · rename_i ds hds
            simp only [Option.some.injEq, Prod.mk.injEq] at e
            obtain ⟨rfl, rfl⟩ := e
            obtain rfl := unMs_eq hds
            rw [← gt_getS] at hs
            have hid : id.1 < o.length := gt_lv o id _ hs
            obtain ⟨v, _, rfl, hv, u, _, rfl, hu, rfl⟩ := hr
            obtain ⟨_, v', ev, _, hv⟩ := (show R c (gt o) (hp w) (.own id (ds.map mvP).length) [v] [] from hv)
            have : v = v' := by simpa using ev
            subst this
            obtain ⟨_, cv, hu, _, hcv⟩ := (show R c (gt o) (hp w) (.clo g' []) [u] [] from hu)
            have hcv : cv = [] := hcv.1
            subst hcv
            have hu : u = .func (.func g') #[] #[] := by simpa using hu
            subst hu
            simp only [OwnOK, hs] at hv
            have hv := hv.2 trivial
            subst hv
            simp only [List.length_map] at hn ⊢
            obtain ⟨htr, hkr, ro⟩ := ok.ob id _ hs
            generalize hsd : (ds.mergeSort fun x y => !ltOf cf y x) = ds'
            have hsl : ds'.length = ds.length := by rw [← hsd]; exact List.length_mergeSort _
            have hres : ∀ vs', vs' = [Value.slice (c.L id).base ds.length (c.L id).cap, .func (.func g') #[] #[]] → vs'.toArray = #[Value.slice (c.L id).base ds.length (c.L id).cap, .func (.func g') #[] #[]] := fun _ h => by rw [h]
            rcases ro with ⟨hx, hcap, hfp⟩ | ⟨fq, hb, ⟨cur, et, wsr, g1, g2, g3, g4, g5, g6⟩, hfp⟩
            · have hd0 : ds = [] := by simpa using hx
              subst hd0
              have : ds' = [] := List.length_eq_zero_iff.1 hsl
              subst this
              have hsame : setS o id (.row 2 ([].map mvP)) = o := setS_same o id _ (by rw [← gt_getS]; exact hs)
              rw [hsame]
              refine (AnyF.slices_SortFunc_none L _ _ _ w).mono fun e w' hend => ?_
              obtain ⟨rfl, rfl⟩ := hend
              exact ⟨⟨rfl, fun id ob h => ⟨ob, h⟩⟩, _, c, fp, [], rfl, Grew.refl _, ok, Adv.refl _ _, Free.nil, [], rfl, rfl, rfl⟩
            · obtain ⟨rfl, rfl⟩ := Rs_mv.1 g5
              simp only [List.length_map] at g2 g6
              have hlt := hp_lt g1
              have hcurat : ∀ j, j < ds.length * 2 → cur[j]? = some (encM ds.toArray[j / 2]!)[j % 2]! := fun j hj => by
                rw [← flat_at ds j hj, ← g6, List.getElem?_take, if_pos hj]; simp
              have hH : HoldsK encM 2 w (c.L id).blk 0 ds.toArray := by
                intro j hj
                simp only [size_flatK, List.size_toArray] at hj
                refine ⟨?_, ?_⟩
                · rw [Nat.zero_add, cell_of_block g1, hcurat j hj, get_flatK encM 2 ds.toArray j (by simpa using hj)]
                  rfl
                · have : w.heap[(c.L id).blk]? = some (.cells cur et (0, 0)) := g1
                  simp [World.frozen?, this]
              have hcmp : CmpLays P g' #[] encM 2 cf (c.L id).blk 0 ds.toArray.size w := fun _ _ _ _ x y => lays_of (hc x y) _
              have hcon := AnyQ.slices_SortFunc_total L 2 aE zE encM (fun _ => rfl) (fun x v hv => by simp [encM] at hv; rcases hv with rfl | rfl <;> rfl) cf hO g' #[] (c.L id).blk 0 (c.L id).cap ds.toArray w (hc default default).1.enters hcmp hH hlt (by simpa using hn) hT
              rw [hb]
              have hargs : ([Value.slice (some ⟨(c.L id).blk, 0, none⟩) ds.length (c.L id).cap, .func (.func g') #[] #[]] : List Value).toArray = #[Value.slice (some ⟨(c.L id).blk, 0, none⟩) ds.toArray.size (c.L id).cap, .func (.func g') #[] #[]] := by simp
              rw [hargs]
              refine hcon.mono fun e w' hend => ?_
              obtain ⟨rfl, m, os, rfl⟩ := hend
              simp only [List.toList_toArray, hsd]
              -- the new world
              have hheap : ∀ b, b < w.heap.size → hp (sortWorldK encM 2 w (c.L id).blk 0 m ds'.toArray os) b = if (c.L id).blk = b then (hp w b).map (onCells (Go.Sort.putCells _root_.id 0 (flatK encM 2 ds'.toArray))) else hp w b := by
                intro b hb'
                simp only [sortWorldK, putRowK, putRow, mapBlock, grow, hp, Sort.ahead]
                rw [Array.getElem?_append_left (by simpa using hb'), Array.getElem?_modify]
              have hother : ∀ b, b < w.heap.size → b ≠ (c.L id).blk → hp (sortWorldK encM 2 w (c.L id).blk 0 m ds'.toArray os) b = hp w b := fun b hb' hne => by rw [hheap b hb', if_neg (Ne.symm hne)]
              have hblk := hheap _ hlt
              rw [if_pos rfl, g1] at hblk
              simp only [Option.map_some, onCells] at hblk
              generalize hcur' : Go.Sort.putCells _root_.id 0 (flatK encM 2 ds'.toArray) cur = cur' at hblk
              have hsz' : cur'.size = cur.size := by rw [← hcur']; simp [Go.Sort.putCells]
              have htake : cur'.toList.take (ds'.length * 2) = ds'.flatMap encM := by
                apply List.ext_getElem?
                intro j
                rw [List.getElem?_take]
                by_cases hj : j < ds'.length * 2
                · rw [if_pos hj, flat_at ds' j hj, ← hcur']
                  have hjc : j < cur.size := by
                    have := Nat.mul_le_mul_right 2 g2
                    omega
                  simp only [Go.Sort.putCells, Array.getElem?_toList, Array.getElem?_mapIdx, Array.getElem?_eq_getElem hjc, Option.map_some, Nat.zero_le, true_and, Nat.zero_add, size_flatK, List.size_toArray, hj, if_true, Nat.sub_zero, Option.some.injEq]
                  rw [get_flatK encM 2 ds'.toArray j (by simpa using hj)]
                  rfl
                · rw [if_neg hj, List.getElem?_eq_none (by rw [flat_len]; omega)]
              have hfz : ∀ a : Addr, a.block < w.heap.size → (sortWorldK encM 2 w (c.L id).blk 0 m ds'.toArray os).frozen? a = w.frozen? a := by
                intro a ha
                have h1 := hheap a.block ha
                simp only [hp] at h1
                by_cases hab : (c.L id).blk = a.block
                · have h2 : w.heap[a.block]? = some (.cells cur et (0, 0)) := by rw [← hab]; exact g1
                  rw [if_pos hab, h2] at h1
                  simp only [Option.map_some, onCells] at h1
                  simp only [World.frozen?, h1, h2]
                · rw [if_neg hab] at h1
                  simp only [World.frozen?, h1]
              have ha : Adv c (setL c id (c.L id)) (gt o) (upd (gt o) id (.row 2 (ds'.map mvP))) := Adv.row hs (by simp [hsl]) (fun _ => rfl)
              have hfq : (c.L id).blk ∈ fp id := by rw [hfp]; exact List.mem_cons_self
              have hst : StOK (setL c id (c.L id)) (upd (gt o) id (.row 2 (ds'.map mvP))) (hp (sortWorldK encM 2 w (c.L id).blk 0 m ds'.toArray os)) (setF fp id [(c.L id).blk]) := by
                refine ok.reset hs ha ?_ (by simp) (fun b hb' => ?_) (fun b hb' hb2 => hother b hb' (fun e => hb2 (by rw [e]; exact hfq)))
                · refine ⟨?_, ?_, .inr ⟨[], by simpa [setL] using hb, ⟨cur', et, ds'.flatMap encM, by simpa [setL] using hblk, by simp only [setL, if_true, List.length_map]; omega, by simpa [setL] using g3, by simp only [setL, if_true, hsz', g4], Rs_mv.2 ⟨rfl, rfl⟩, by rw [List.length_map]; exact htake⟩, by simp [setL]⟩⟩
                  · clear hsd
                    induction ds' with
                    | nil => rfl
                    | cons a r _ => exact (by
                        have : ∀ l : List (Int × Int), trees (l.map mvP) = true := fun l => by
                          induction l with
                          | nil => rfl
                          | cons b l ih => simp [trees, tree, mvP, ih]
                        exact this _)
                  · intro x hx
                    obtain ⟨a, _, rfl⟩ := List.mem_map.1 hx
                    exact ⟨rfl, rfl⟩
                · simp only [List.mem_singleton] at hb'
                  subst hb'
                  exact ⟨ok.nF id _ hs _ hfq, fun id' ob' hne' hs' => ok.dj id id' _ ob' hs hs' (Ne.symm hne') _ hfq⟩
              refine ⟨shape_setS hs, .tuple #[], setL c id (c.L id), setF fp id [(c.L id).blk], [], rfl, ⟨rfl, rfl, rfl, ?_, hfz, ?_⟩, ?_, ?_, Free.nil, [], rfl, rfl, rfl⟩
              · simp [sortWorldK, grow, putRowK, putRow, mapBlock, Sort.ahead]
              · simp [sortWorldK, grow, putRowK, putRow, mapBlock, Sort.ahead]
              · rw [gt_setS hid]; exact hst
              · rw [gt_setS hid]; exact ha
          · cases e
        · cases e
      · cases e
    · cases e
  · cases e
end
end Go.Am
end
section
/- The copy of a slice of pairs, as a primitive function: an empty slice may be nil or not. -/
set_option linter.unusedSimpArgs false
set_option linter.unusedVariables false
namespace Go.Am
open Go.Proofs Go.Sort Go.Shelf Go.RowKit
/-- The copy of a row of pairs. -/
def cloneMv : List PV → Stack → Option (PV × Stack)
  | [.sl false k xs], [] => match unMs xs with
      | some ds => if k = 2 ∧ ds.length ≤ 4294967296 then some (.sl true 2 (ds.map mvP), []) else none
      | none => none
  | [.nils], [] => some (.sl true 2 [], [])
  | _, _ => none
theorem ret_nils {c : Ctx} {S : Sto} {h : Hp} {v : Value} {f : List Nat} (k : Nat) (r : Ret c S h .nils v f) : Ret c S h (.sl true k []) v f := by
  obtain ⟨hf, A, hv⟩ := r
  exact ⟨rfl, fun x hx => (by cases hx), A, 0, hv, .inl ⟨rfl, rfl, hf⟩⟩
theorem cloneMv_good {P : Program} {f : Nat} (h0 : ∀ A cp, Good P f [.sc (.slice A 0 cp)] [] (if A.isNone = true then .nils else .sl true 2 []) [])
    (h1 : ∀ (d : Int × Int) (ds : List (Int × Int)), (d :: ds).length ≤ 4294967296 → Good P f [.sl false 2 ((d :: ds).map mvP)] [] (.sl true 2 ((d :: ds).map mvP)) []) {args : List PV} {o o' : Stack} {r : PV} (e : cloneMv args o = some (r, o')) : Good P f args o r o' := by
  have hz : ∀ x, (∀ c S h v, RVal c S h x v → ∃ A cp, v = .slice A 0 cp) → Good P f [x] [] (.sl true 2 []) [] := fun x hx => by
    refine ⟨(h0 none 0).1, fun c fp w vals ok hr => ?_⟩
    obtain ⟨v, _, rfl, hv, rfl⟩ := hr
    obtain ⟨A, cp, rfl⟩ := hx _ _ _ _ hv
    have hr2 : RVals c (gt []) (hp w) [.sc (.slice A 0 cp)] [.slice A 0 cp] := ⟨_, _, rfl, ⟨rfl, rfl, rfl⟩, rfl⟩
    refine ((h0 A cp).2 c fp w _ ok hr2).mono fun e w' hend => ?_
    obtain ⟨hs, v, c', fp', f', a1, a2, a3, a4, a5, a6⟩ := hend
    refine ⟨hs, v, c', fp', f', a1, a2, a3, a4, a5, ?_⟩
    cases A with
    | none => exact ret_nils 2 (by simpa using a6)
    | some a => simpa using a6
  unfold cloneMv at e
  split at e
  · rename_i k xs
    split at e
    · rename_i ds hds
      split at e
      · rename_i hk
        obtain ⟨rfl, hl⟩ := hk
        simp only [Option.some.injEq, Prod.mk.injEq] at e
        obtain ⟨rfl, rfl⟩ := e
        obtain rfl := unMs_eq hds
        cases ds with
        | nil =>
          refine hz _ fun c S h v hv => ?_
          obtain ⟨_, _, _, A, cp, hv, _⟩ := hv
          exact ⟨A, cp, (List.cons.inj hv).1⟩
        | cons d ds => exact h1 d ds hl
      · cases e
    · cases e
  · simp only [Option.some.injEq, Prod.mk.injEq] at e
    obtain ⟨rfl, rfl⟩ := e
    refine hz _ fun c S h v hv => ?_
    obtain ⟨_, A, hv⟩ := hv
    exact ⟨A, 0, (List.cons.inj hv).1⟩
  · cases e
end Go.Am
end
section
/- The library's sort at this program, as the kit's tool lays it. -/
namespace Go.Proofs
open Go.Shelf
def Try.sortMv_ren : Go.Shelf.Ren := ⟨fun | 6 => 141 | 15 => 163 | 14 => 162 | 28 => 184 | 29 => 185 | 20 => 176 | 21 => 177 | 22 => 178 | 23 => 179 | 24 => 180 | 25 => 181 | 26 => 182 | 27 => 183 | 46 => 201 | 47 => 202 | 48 => 203 | 49 => 204 | 50 => 205 | 57 => 210 | n => n, fun | 22 => 82 | 24 => 84 | 25 => 126 | 3 => 3 | 39 => 157 | 0 => 0 | 53 => 174 | 55 => 176 | 4 => 4 | 46 => 167 | 45 => 166 | 50 => 171 | 5 => 5 | 9 => 9 | 66 => 186 | 70 => 190 | 76 => 194 | 77 => 195 | n => n, fun | n => n⟩
theorem Try.sortMv : Go.Proofs.SlLaysF0.n6 Try.prog Try.sortMv_ren := {
  mixed := by kernel_rfl
  f6 := ⟨Try.f141.name, by decide, Try.func141.trans (congrArg some (by kernel_rfl))⟩
  f14 := ⟨Try.f162.name, by decide, Try.func162.trans (congrArg some (by kernel_rfl))⟩
  f15 := Try.func163.trans (congrArg some (by kernel_rfl))
  f20 := ⟨Try.f176.name, by decide, Try.func176.trans (congrArg some (by kernel_rfl))⟩
  f21 := ⟨Try.f177.name, by decide, Try.func177.trans (congrArg some (by kernel_rfl))⟩
  f22 := ⟨Try.f178.name, by decide, Try.func178.trans (congrArg some (by kernel_rfl))⟩
  f23 := ⟨Try.f179.name, by decide, Try.func179.trans (congrArg some (by kernel_rfl))⟩
  f24 := ⟨Try.f180.name, by decide, Try.func180.trans (congrArg some (by kernel_rfl))⟩
  f25 := ⟨Try.f181.name, by decide, Try.func181.trans (congrArg some (by kernel_rfl))⟩
  f26 := ⟨Try.f182.name, by decide, Try.func182.trans (congrArg some (by kernel_rfl))⟩
  f27 := ⟨Try.f183.name, by decide, Try.func183.trans (congrArg some (by kernel_rfl))⟩
  f28 := Try.func184.trans (congrArg some (by kernel_rfl))
  f29 := Try.func185.trans (congrArg some (by kernel_rfl))
  f46 := ⟨Try.f201.name, by decide, Try.func201.trans (congrArg some (by kernel_rfl))⟩
  f47 := Try.func202.trans (congrArg some (by kernel_rfl))
  f48 := Try.func203.trans (congrArg some (by kernel_rfl))
  f49 := ⟨Try.f204.name, by decide, Try.func204.trans (congrArg some (by kernel_rfl))⟩
  f50 := ⟨Try.f205.name, by decide, Try.func205.trans (congrArg some (by kernel_rfl))⟩
  f57 := ⟨Try.f210.name, by decide, Try.func210.trans (congrArg some (by kernel_rfl))⟩
  t0 := Try.underlying0
  a0 := Try.isAgg0
  z0 := Try.sizeOf0
  v0 := Try.zeroValue0
  t3 := Try.underlying3
  a3 := Try.isAgg3
  z3 := Try.sizeOf3
  v3 := Try.zeroValue3
  t4 := Try.underlying4
  a4 := Try.isAgg4
  z4 := Try.sizeOf4
  v4 := Try.zeroValue4
  t5 := Try.underlying5
  a5 := Try.isAgg5
  z5 := Try.sizeOf5
  v5 := Try.zeroValue5
  t9 := Try.underlying9
  a9 := Try.isAgg9
  z9 := Try.sizeOf9
  v9 := Try.zeroValue9
  t22 := Try.underlying82
  a22 := Try.isAgg82
  z22 := Try.sizeOf82
  v22 := Try.zeroValue82
  t25 := Try.underlying126
  a25 := Try.isAgg126
  z25 := Try.sizeOf126
  v25 := Try.zeroValue126
  t39 := Try.underlying157
  a39 := Try.isAgg157
  z39 := Try.sizeOf157
  v39 := Try.zeroValue157
  t45 := Try.underlying166
  a45 := Try.isAgg166
  z45 := Try.sizeOf166
  v45 := Try.zeroValue166
  t46 := Try.underlying167
  a46 := Try.isAgg167
  z46 := Try.sizeOf167
  v46 := Try.zeroValue167
  t50 := Try.underlying171
  a50 := Try.isAgg171
  z50 := Try.sizeOf171
  v50 := Try.zeroValue171
  t53 := Try.underlying174
  a53 := Try.isAgg174
  z53 := Try.sizeOf174
  v53 := Try.zeroValue174
  t55 := Try.underlying176
  a55 := Try.isAgg176
  z55 := Try.sizeOf176
  v55 := Try.zeroValue176
  t66 := Try.underlying186
  a66 := Try.isAgg186
  z66 := Try.sizeOf186
  v66 := Try.zeroValue186
  t70 := Try.underlying190
  a70 := Try.isAgg190
  z70 := Try.sizeOf190
  v70 := Try.zeroValue190
  t76 := Try.underlying194
  a76 := Try.isAgg194
  z76 := Try.sizeOf194
  v76 := Try.zeroValue194
  t77 := Try.underlying195
  a77 := Try.isAgg195
  z77 := Try.sizeOf195
  v77 := Try.zeroValue195 }
end Go.Proofs
end
section
set_option maxRecDepth 100000
set_option linter.unusedSimpArgs false
set_option linter.unusedVariables false
namespace Go.Am
open Go.Proofs Go.Sort Go.Shelf
def cmpI (a b : Int) : Int := if a < b then -1 else if b < a then 1 else 0
def cmpM (x y : Int × Int) : Int := if cmpI x.1 y.1 ≠ 0 then cmpI x.1 y.1 else cmpI x.2 y.2
theorem eqNaN0 (a : Int) : callI G0 169 [.i a] [] = some (.b false, []) := by
  rw [callI_eq]
  simp [body1_eq _ _ (gp0 169) g169, c169, a169]
theorem eqCmp0 (a b : Int) : callI G0 151 [.i a, .i b] [] = some (.i (cmpI a b), []) := by
  have h1 := eqNaN0 a
  have h2 := eqNaN0 b
  rw [callI_eq]
  unfold cmpI
  by_cases c1 : a < b
  · simp [body1_eq _ _ (gp0 151) g151, c151, a151, h1, h2, c1]
  · by_cases c2 : b < a
    · simp [body1_eq _ _ (gp0 151) g151, c151, a151, h1, h2, c1, c2]
    · simp [body1_eq _ _ (gp0 151) g151, c151, a151, h1, h2, c1, c2]
theorem eqByMove0 (x y : Int × Int) : callI G0 121 [mvP x, mvP y] [] = some (.i (cmpM x y), []) := by
  have h1 := eqCmp0 x.1 y.1
  have h2 := eqCmp0 x.2 y.2
  rw [callI_eq]
  unfold cmpM
  by_cases c1 : cmpI x.1 y.1 = 0
  · simp [body1_eq _ _ (gp0 121) g121, c121, a121, mvP, h1, h2, c1]
  · simp [body1_eq _ _ (gp0 121) g121, c121, a121, mvP, h1, h2, c1]
/-- The order of moves. -/
def ltM (x y : Int × Int) : Bool := ltOf cmpM x y
theorem ltM_iff (x y : Int × Int) : ltM x y = true ↔ x.1 < y.1 ∨ x.1 = y.1 ∧ x.2 < y.2 := by
  unfold ltM ltOf cmpM cmpI
  simp only [decide_eq_true_eq]
  repeat' split
  all_goals (constructor <;> intro h <;> omega)
theorem ltM_false (x y : Int × Int) : ltM x y = false ↔ y.1 < x.1 ∨ y.1 = x.1 ∧ y.2 ≤ x.2 := by
  have := ltM_iff x y
  cases h : ltM x y with
  | true =>
    have := this.1 h
    constructor
    · intro e; cases e
    · intro e; omega
  | false =>
    rw [h] at this
    simp only [Bool.false_eq_true, false_iff] at this
    constructor
    · intro _; omega
    · intro _; rfl
theorem swoM : SWO (ltOf cmpM) where
  irrefl x := (ltM_false x x).2 (by omega)
  trans x y z h1 h2 := (ltM_iff x z).2 (by have := (ltM_iff x y).1 h1; have := (ltM_iff y z).1 h2; omega)
  ntrans x y z h1 h2 := (ltM_false x z).2 (by have := (ltM_false x y).1 h1; have := (ltM_false y z).1 h2; omega)
theorem totM (x y : Int × Int) (h1 : (ltOf cmpM) x y = false) (h2 : (ltOf cmpM) y x = false) : x = y := by
  have a := (ltM_false x y).1 h1
  have b := (ltM_false y x).1 h2
  exact Prod.ext (by omega) (by omega)
/-! slices.Clone at moves: an empty slice as it may be. -/
theorem eqClone0 (A : Option Addr) (cp : Nat) : callI G0 95 [.sc (.slice A 0 cp)] [] = some (if A.isNone = true then .nils else .sl true 2 [], []) := by
  rw [callI_eq]
  cases A with
  | none => simp [body1_eq _ _ (gp0 95) g95, c95, a95]
  | some a => simp [body1_eq _ _ (gp0 95) g95, c95, a95]
theorem eqClone1 (d : Int × Int) (ds : List (Int × Int)) (h : (d :: ds).length ≤ 4294967296) : callI G0 95 [.sl false 2 ((d :: ds).map mvP)] [] = some (.sl true 2 ((d :: ds).map mvP), []) := by
  rw [callI_eq]
  have h2 : ds.length + 1 ≤ 4294967296 := by simpa using h
  simp [body1_eq _ _ (gp0 95) g95, c95, a95, h2]
def prims : Nat → Option (List PV → Stack → Option (PV × Stack))
  | 141 => some (sortP 121 (ltOf cmpM))
  | 95 => some cloneMv
  | _ => none
def G : Prog := ⟨codes, prims⟩
theorem gp (n : Nat) (h : prims n = none := by rfl) : G.prim n = none := h
theorem progOK : ProgOK Try.prog G := by
  refine ⟨progOK0.1, fun f af _ h => progOK0.code f af rfl h, fun f p h => ?_⟩
  simp only [G] at h
  unfold prims at h
  split at h
  · simp only [Option.some.injEq] at h
    subst h
    intro args o r o' e
    exact sortP_good Try.sortMv Try.isAgg84 Try.sizeOf84 ⟨Try.f141, Try.func141, by kernel_rfl, by decide +kernel⟩ swoM totM (fun x y => sound progOK0 (eqByMove0 x y)) e
  · simp only [Option.some.injEq] at h
    subst h
    intro args o r o' e
    exact cloneMv_good (fun A cp => sound progOK0 (eqClone0 A cp)) (fun d ds hl => sound progOK0 (eqClone1 d ds hl)) e
  · cases h
/-- The sort's own equation. -/
theorem callI_prim {G : Prog} {f : Nat} {p : List PV → Stack → Option (PV × Stack)} (h : G.prim f = some p) (args : List PV) (o : Stack) : callI G f args o = p args o := by
  rw [callI_eq]
  simp only [body1, h]
theorem eqSortM (args : List PV) (o : Stack) : callI G 141 args o = sortP 121 ltM args o := callI_prim rfl args o
theorem eqCloneM (args : List PV) (o : Stack) : callI G 95 args o = cloneMv args o := callI_prim rfl args o
end Go.Am
end
section
set_option maxRecDepth 10000
set_option linter.unusedSimpArgs false
set_option linter.unusedVariables false
namespace Go.Am
open Go.Proofs
abbrev Mv := Int × Int
abbrev Gr := List (List Mv)
theorem wr {n : Int} (h : -9223372036854775808 ≤ n ∧ n ≤ 9223372036854775807) : IntKind.i64.wrap n = n := by
  simp only [IntKind.wrap, IntKind.bits, IntKind.signed]
  simp
  omega
/-! #### lists of moves as the machine holds them -/
def encL (nl u : Bool) (l : List Mv) : PV := if (nl && l.isEmpty) = true then .nils else .sl u 2 (l.map mvP)
def encGs (nl u : Bool) (g : Gr) : List PV := g.map (encL nl u)
def encM' (nl u : Bool) (g : Gr) : PV := if (nl && g.isEmpty) = true then .nils else .sl u 1 (encGs nl u g)
abbrev encG (nl u : Bool) (g : Gr) : PV := .agg [encM' nl u g]
@[simp] theorem encL_f (u : Bool) (l : List Mv) : encL false u l = .sl u 2 (l.map mvP) := rfl
@[simp] theorem encL_n (u : Bool) : encL true u [] = .nils := rfl
@[simp] theorem encL_c (nl u : Bool) (x : Mv) (l : List Mv) : encL nl u (x :: l) = .sl u 2 (mvP x :: l.map mvP) := by simp [encL]
theorem encL_ne {nl u : Bool} {l : List Mv} (h : l ≠ []) : encL nl u l = .sl u 2 (l.map mvP) := by
  cases l with
  | nil => exact absurd rfl h
  | cons x l => simp
@[simp] theorem encM_f (u : Bool) (g : Gr) : encM' false u g = .sl u 1 (encGs false u g) := rfl
@[simp] theorem encM_n (u : Bool) : encM' true u [] = .nils := rfl
@[simp] theorem encM_c (nl u : Bool) (x : List Mv) (g : Gr) : encM' nl u (x :: g) = .sl u 1 (encL nl u x :: encGs nl u g) := by simp [encM', encGs]
@[simp] theorem encGs_len (nl u : Bool) (g : Gr) : (encGs nl u g).length = g.length := by simp [encGs]
@[simp] theorem fal_mvP (x : Mv) : fal (mvP x) = mvP x := rfl
theorem fals_mvP : ∀ l : List Mv, fals (l.map mvP) = l.map mvP
  | [] => rfl
  | x :: l => by
    have := fals_mvP l
    simp [fals, this]
theorem fal_encL (nl u : Bool) (l : List Mv) : fal (encL nl u l) = encL nl false l := by
  unfold encL
  split
  · rfl
  · simp [fal, fals_mvP]
theorem fals_encGs (nl u : Bool) : ∀ g : Gr, fals (encGs nl u g) = encGs nl false g
  | [] => rfl
  | l :: g => by
    have := fals_encGs nl u g
    simp only [encGs, List.map_cons, fals, fal_encL] at this ⊢
    rw [this]
theorem fal_encM (nl u : Bool) (g : Gr) : fal (encM' nl u g) = encM' nl false g := by
  unfold encM'
  split
  · rfl
  · simp [fal, fals_encGs]
theorem mv_at (a : List Mv) (x : Mv) (b : List Mv) : nth ((a ++ x :: b).map mvP) a.length = some (mvP x) := by
  unfold nth; simp
theorem encGs_app (nl u : Bool) (a b : Gr) : encGs nl u (a ++ b) = encGs nl u a ++ encGs nl u b := by simp [encGs]
theorem gr_at (nl u : Bool) (a : Gr) (x : List Mv) (b : Gr) : nth (encGs nl u (a ++ x :: b)) a.length = some (encL nl u x) := by
  unfold nth encGs; simp
theorem mvP_cells (x : Mv) : (mvP x).cells = [.i x.1, .i x.2] := rfl
theorem encL_cells (nl u : Bool) (l : List Mv) : (encL nl u l).cells = [encL nl u l] := by unfold encL; split <;> rfl
@[simp] theorem known_encL (f : Nat → Bool) (n : Nat) (nl u : Bool) (l : List Mv) : known f n (encL nl u l) = true := by unfold encL; split <;> rfl
@[simp] theorem cellP_encL (nl u : Bool) (l : List Mv) : cellP (encL nl u l) = true := by unfold encL; split <;> rfl
@[simp] theorem cells_encL (nl u : Bool) (l : List Mv) : (encL nl u l).cells = [encL nl u l] := encL_cells nl u l
@[simp] theorem noRef_encL (nl u : Bool) (l : List Mv) : noRef (encL nl u l) = true := by unfold encL; split <;> rfl
@[simp] theorem plain_encL (nl : Bool) (l : List Mv) : plain (encL nl false l) = true := by unfold encL; split <;> rfl
@[simp] theorem snapE_encL (g : Id → Option OB) (nl u : Bool) (l : List Mv) : snapE g (encL nl u l) = some (encL nl u l) := by unfold encL; split <;> rfl
@[simp] theorem rowIdE_encL (g : Id → Option OB) (nl u : Bool) (l : List Mv) : rowIdE g (encL nl u l) = [] := by unfold encL; split <;> rfl
@[simp] theorem snap_encL (g : Id → Option OB) (nl u : Bool) (l : List Mv) : snap g (encL nl u l) = some (encL nl u l) := by unfold encL; split <;> rfl
@[simp] theorem rowId_encL (g : Id → Option OB) (nl u : Bool) (l : List Mv) : rowId g (encL nl u l) = [] := by unfold encL; split <;> rfl
@[simp] theorem len_encL (n d : Nat) (g : Id → Option OB) (nl u : Bool) (l : List Mv) : core1 n d g .len [encL nl u l] = some (.i l.length, []) := by
  unfold encL
  split
  · rename_i hh
    have : l = [] := by simp at hh; exact hh.2
    subst this
    simp
  · simp
@[simp] theorem known_encM (f : Nat → Bool) (n : Nat) (nl u : Bool) (l : Gr) : known f n (encM' nl u l) = true := by unfold encM'; split <;> rfl
@[simp] theorem cellP_encM (nl u : Bool) (l : Gr) : cellP (encM' nl u l) = true := by unfold encM'; split <;> rfl
@[simp] theorem noRef_encM (nl u : Bool) (l : Gr) : noRef (encM' nl u l) = true := by unfold encM'; split <;> rfl
@[simp] theorem plain_encM (nl : Bool) (l : Gr) : plain (encM' nl false l) = true := by unfold encM'; split <;> rfl
@[simp] theorem snap_encM (g : Id → Option OB) (nl u : Bool) (l : Gr) : snap g (encM' nl u l) = some (encM' nl u l) := by unfold encM'; split <;> rfl
@[simp] theorem rowId_encM (g : Id → Option OB) (nl u : Bool) (l : Gr) : rowId g (encM' nl u l) = [] := by unfold encM'; split <;> rfl
@[simp] theorem snapE_encM (g : Id → Option OB) (nl u : Bool) (l : Gr) : snapE g (encM' nl u l) = some (encM' nl u l) := by unfold encM'; split <;> rfl
@[simp] theorem rowIdE_encM (g : Id → Option OB) (nl u : Bool) (l : Gr) : rowIdE g (encM' nl u l) = [] := by unfold encM'; split <;> rfl
@[simp] theorem len_encM (n d : Nat) (g : Id → Option OB) (nl u : Bool) (l : Gr) : core1 n d g .len [encM' nl u l] = some (.i l.length, []) := by
  unfold encM'
  split
  · rename_i hh
    have : l = [] := by simp at hh; exact hh.2
    subst this
    simp
  · simp
theorem encM_cases (nl u : Bool) (g : Gr) : encM' nl u g = .nils ∨ ∃ xs, encM' nl u g = .sl u 1 xs := by
  unfold encM'
  split
  · exact .inl rfl
  · exact .inr ⟨_, rfl⟩
theorem encL_cases (nl u : Bool) (l : List Mv) : encL nl u l = .nils ∨ ∃ xs, encL nl u l = .sl u 2 xs := by
  unfold encL
  split
  · exact .inl rfl
  · exact .inr ⟨_, rfl⟩
/-! #### the size -/
def szM (n : Nat) (l : Int) : Int := if l - n < 0 then -1 else l - n
def szMs : Gr → Int → Int
  | [], l => l
  | x :: g, l => if szM x.length l < 0 then -1 else szMs g (szM x.length l)
def szG (g : Gr) (l : Int) : Int := if l - g.length < 0 then -1 else szMs g (l - g.length)
/-- Lists of no more elements than memory holds. -/
def FitG (g : Gr) : Prop := g.length ≤ 9223372036854775807 ∧ ∀ l ∈ g, l.length ≤ 9223372036854775807
theorem eqSzM (x : List Mv) (l : Int) (h : x.length ≤ 9223372036854775807) (h0 : 0 ≤ l) (h1 : l ≤ 1048576) : callI G 117 [encL false false x, .i l] [] = some (.i (szM x.length l), []) := by
  have hw : IntKind.i64.wrap (l - x.length) = l - x.length := wr (by omega)
  rw [callI_eq]
  unfold szM
  by_cases c : l - x.length < 0 <;> simp [body1_eq _ _ (gp 117) g117, c117, a117, hw, c]
theorem szM_le {n : Nat} {l : Int} (h : ¬ szM n l < 0) : szM n l = l - n ∧ 0 ≤ l - n := by
  unfold szM at h ⊢
  split at h
  · omega
  · rename_i hh; rw [if_neg hh]; omega
theorem loopSzMs (rest : Gr) : ∀ (done : Gr) (l : Int), (∀ x ∈ rest, x.length ≤ 9223372036854775807) → (done ++ rest).length ≤ 9223372036854775807 → 0 ≤ l → l ≤ 1048576 →
    loopI G [0, 1, 5] [] c58l0 ⟨[(0, .sl false 1 (encGs false false (done ++ rest))), (1, .i l), (5, .i done.length)], [], []⟩ =
      if szMs rest l < 0 then some (.ret, ⟨[(4, .i (-1))], [], []⟩) else some (.exit 0, ⟨[(0, .sl false 1 (encGs false false (done ++ rest))), (1, .i (szMs rest l)), (5, .i (done ++ rest).length), (15, .b false)], [], []⟩) := by
  induction rest with
  | nil =>
    intro done l hf h h0 h1
    rw [loopI_eq]
    have : ¬ l < 0 := by omega
    simp [r58l0, b58l0, szMs, this]
  | cons x rest ih =>
    intro done l hf h h0 h1
    have hc := eqSzM x l (hf x List.mem_cons_self) h0 h1
    have hat := gr_at false false done x rest
    have hlt : (done.length : Int) < (done.length : Int) + ((rest.length : Int) + 1) := by omega
    have hw : IntKind.i64.wrap ((done.length : Int) + 1) = (done.length : Int) + 1 := wr (by simp at h; omega)
    rw [loopI_eq]
    simp only [encL_f] at hc hat
    by_cases hs : szM x.length l < 0
    · simp [r58l0, b58l0, szMs, hat, hlt, hc, hs]
    · obtain ⟨e1, e2⟩ := szM_le hs
      have hn := ih (done ++ [x]) (szM x.length l) (fun y hy => hf y (List.mem_cons_of_mem _ hy)) (by simpa using h) (by omega) (by omega)
      simp [r58l0, b58l0, szMs, hat, hlt, hc, hs, hw]
      simpa [Int.add_assoc] using hn
theorem szMs_le : ∀ (g : Gr) (l : Int), 0 ≤ l → ¬ szMs g l < 0 → szMs g l ≤ l ∧ ∀ x ∈ g, (x.length : Int) ≤ l
  | [], l, h, _ => ⟨Int.le_refl _, fun x hx => by cases hx⟩
  | y :: g, l, h, hs => by
    simp only [szMs] at hs ⊢
    by_cases c : szM y.length l < 0
    · rw [if_pos c] at hs; omega
    · rw [if_neg c] at hs ⊢
      obtain ⟨e1, e2⟩ := szM_le c
      obtain ⟨q1, q2⟩ := szMs_le g _ (by omega) hs
      refine ⟨by omega, fun x hx => ?_⟩
      rcases List.mem_cons.1 hx with h | h
      · subst h; omega
      · have := q2 x h; omega
/-- Graphs that can be made. -/
def SmallG (g : Gr) : Prop := g.length ≤ 1048576 ∧ ∀ l ∈ g, l.length ≤ 1048576
theorem szG_small {g : Gr} (h : ¬ szG g 1048576 < 0) : SmallG g := by
  unfold szG at h
  split at h
  · omega
  · obtain ⟨q1, q2⟩ := szMs_le g _ (by omega) h
    exact ⟨by omega, fun x hx => by have := q2 x hx; omega⟩
theorem eqSzG (g : Gr) (hf : FitG g) : callI G 14 [encG false false g, .i 1048576] [] = some (.i (if szG g 1048576 < 0 then -1 else szG g 1048576), []) := by
  have hs : callI G 58 [.sl false 1 (encGs false false g), .i 1048576] [] = some (.i (if szG g 1048576 < 0 then -1 else szG g 1048576), []) := by
    have hw : IntKind.i64.wrap (1048576 - g.length) = 1048576 - g.length := wr (by have := hf.1; omega)
    rw [callI_eq]
    unfold szG
    by_cases c : (1048576 : Int) - g.length < 0
    · simp [body1_eq _ _ (gp 58) g58, c58, a58, hw, c]
    · have hl := loopSzMs g [] (1048576 - g.length) hf.2 (by simpa using hf.1) (by omega) (by omega)
      simp only [List.nil_append, List.length_nil, show ((0 : Nat) : Int) = 0 from rfl] at hl
      by_cases c2 : szMs g (1048576 - g.length) < 0
      · rw [if_pos c2] at hl
        simp [body1_eq _ _ (gp 58) g58, c58, a58, hw, c, hl, c2]
      · rw [if_neg c2] at hl
        simp [body1_eq _ _ (gp 58) g58, c58, a58, hw, c, hl, c2]
  rw [callI_eq]
  by_cases c : szG g 1048576 < 0
  · simp only [c, if_true] at hs
    simp [body1_eq _ _ (gp 14) g14, c14, a14, hs, c]
  · simp only [c, if_false] at hs
    simp [body1_eq _ _ (gp 14) g14, c14, a14, hs, c]
/-! #### copies -/
theorem eqToMove (x : Mv) : callI G 150 [mvP x] [] = some (mvP x, []) := by
  rw [callI_eq]
  simp [body1_eq _ _ (gp 150) g150, c150, a150, mvP]
abbrev Z2 : PV := .agg [.i 0, .i 0]
theorem row_atM (a : List Mv) (m : Nat) : nth (a.map mvP ++ Z2 :: List.replicate m Z2) a.length = some Z2 := by
  unfold nth; simp
theorem row_setM (a : List Mv) (m : Nat) (y : PV) : (a.map mvP ++ Z2 :: List.replicate m Z2).set a.length y = a.map mvP ++ y :: List.replicate m Z2 := by
  rw [List.set_append_right _ _ (by simp)]; simp
theorem loopToMs (rest : List Mv) : ∀ (done : List Mv), (done ++ rest).length ≤ 9223372036854775807 →
    loopI G [0, 3, 4] [7] c120l0 ⟨[(0, .sl false 2 ((done ++ rest).map mvP)), (3, .own (0, 7) (done ++ rest).length), (4, .i done.length)], [(7, .row 2 (done.map mvP ++ List.replicate rest.length Z2))], []⟩ =
      some (.exit 0, ⟨[(0, .sl false 2 ((done ++ rest).map mvP)), (3, .own (0, 7) (done ++ rest).length), (4, .i (done ++ rest).length), (11, .b false)], [(7, .row 2 ((done ++ rest).map mvP))], []⟩) := by
  induction rest with
  | nil =>
    intro done h
    rw [loopI_eq]
    simp [r120l0, b120l0]
  | cons x rest ih =>
    intro done h
    rw [loopI_eq]
    have hc := eqToMove x
    have hat := mv_at done x rest
    have hlt : (done.length : Int) < (done.length : Int) + ((rest.length : Int) + 1) := by omega
    have hw : IntKind.i64.wrap ((done.length : Int) + 1) = (done.length : Int) + 1 := wr (by simp at h; omega)
    have hn := ih (done ++ [x]) (by simpa using h)
    have hra := row_atM done rest.length
    have hrs := row_setM done rest.length
    simp only [List.map_append, List.map_cons, mvP] at hc hat hra hrs
    simp [r120l0, b120l0, hat, hlt, hc, hw, List.replicate_succ, mvP, hra, hrs]
    simpa [unAgg, Int.add_assoc, mvP] using hn
theorem eqToMs (l : List Mv) (h : l.length ≤ 4294967296) : callI G 120 [encL false false l] [] = some (encL false true l, []) := by
  have hl := loopToMs l [] (by simp; omega)
  simp only [List.nil_append, List.length_nil, List.map_nil, show ((0 : Nat) : Int) = 0 from rfl] at hl
  rw [callI_eq]
  have h4 : (l.length : Int) ≤ 4294967296 := by omega
  simp [body1_eq _ _ (gp 120) g120, c120, a120, h, h4, hl]
theorem row_atG (a : Gr) (m : Nat) : nth (encGs false true a ++ PV.nils :: List.replicate m .nils) a.length = some .nils := by
  unfold nth encGs; simp
theorem row_setG (a : Gr) (m : Nat) (y : PV) : (encGs false true a ++ PV.nils :: List.replicate m .nils).set a.length y = encGs false true a ++ y :: List.replicate m .nils := by
  rw [List.set_append_right _ _ (by simp)]; simp
theorem loopToMss (rest : Gr) (hr : ∀ l ∈ rest, l.length ≤ 4294967296) : ∀ (done : Gr), (done ++ rest).length ≤ 9223372036854775807 →
    loopI G [0, 3, 4] [7] c63l0 ⟨[(0, .sl false 1 (encGs false false (done ++ rest))), (3, .own (0, 7) (done ++ rest).length), (4, .i done.length)], [(7, .row 1 (encGs false true done ++ List.replicate rest.length .nils))], []⟩ =
      some (.exit 0, ⟨[(0, .sl false 1 (encGs false false (done ++ rest))), (3, .own (0, 7) (done ++ rest).length), (4, .i (done ++ rest).length), (11, .b false)], [(7, .row 1 (encGs false true (done ++ rest)))], []⟩) := by
  induction rest with
  | nil =>
    intro done h
    rw [loopI_eq]
    simp [r63l0, b63l0]
  | cons x rest ih =>
    intro done h
    rw [loopI_eq]
    have hc := eqToMs x (hr x List.mem_cons_self)
    have hat := gr_at false false done x rest
    have hlt : (done.length : Int) < (done.length : Int) + ((rest.length : Int) + 1) := by omega
    have hw : IntKind.i64.wrap ((done.length : Int) + 1) = (done.length : Int) + 1 := wr (by simp at h; omega)
    have hn := ih (fun y hy => hr y (List.mem_cons_of_mem _ hy)) (done ++ [x]) (by simpa using h)
    simp only [encL_f] at hc hat
    simp [r63l0, b63l0, hat, hlt, hc, hw, List.replicate_succ, row_atG, row_setG]
    simpa [encGs_app, encGs, unAgg, Int.add_assoc] using hn
theorem eqToG (g : Gr) (hs : SmallG g) : callI G 16 [encG false false g] [] = some (encG false true g, []) := by
  have hm : callI G 63 [.sl false 1 (encGs false false g)] [] = some (.sl true 1 (encGs false true g), []) := by
    have h := hs.1
    have hl := loopToMss g (fun l hl => by have := hs.2 l hl; omega) [] (by simp; omega)
    simp only [List.nil_append, List.length_nil, show ((0 : Nat) : Int) = 0 from rfl] at hl
    have e : encGs false true [] = [] := rfl
    rw [e, List.nil_append] at hl
    rw [callI_eq]
    have h4 : (g.length : Int) ≤ 4294967296 := by omega
    have h5 : g.length ≤ 4294967296 := by omega
    simp [body1_eq _ _ (gp 63) g63, c63, a63, h4, h5, hl]
  rw [callI_eq]
  simp [body1_eq _ _ (gp 16) g16, c16, a16, hm]
end Go.Am
end
section
set_option maxRecDepth 10000
set_option linter.unusedSimpArgs false
set_option linter.unusedVariables false
namespace Go.Am
open Go.Proofs
/-! #### comparing -/
theorem eqEqMove (x y : Mv) : callI G 154 [mvP x, mvP y] [] = some (.b (decide (x = y)), []) := by
  rw [callI_eq]
  obtain ⟨a, b⟩ := x
  obtain ⟨c, d⟩ := y
  by_cases h1 : a = c
  · by_cases h2 : b = d <;> simp [body1_eq _ _ (gp 154) g154, c154, a154, mvP, h1, h2]
  · simp [body1_eq _ _ (gp 154) g154, c154, a154, mvP, h1]
theorem loopEqMs (p q : List Mv) : ∀ (a b : List Mv), a.length = b.length → p.length = q.length → (p ++ a).length ≤ 9223372036854775807 →
    ∃ r, loopI G [0, 1, 5] [] c124l0 ⟨[(0, .sl false 2 ((p ++ a).map mvP)), (1, .sl false 2 ((q ++ b).map mvP)), (5, .i p.length)], [], []⟩ = some r ∧
      ((a ≠ b ∧ r = (.ret, ⟨[(4, .b false)], [], []⟩)) ∨ (a = b ∧ ∃ s, r = (.exit 0, s) ∧ s.o = [] ∧ s.l = [])) := by
  intro a
  induction a generalizing p q with
  | nil =>
    intro b hab hpq h
    have hb : b = [] := List.length_eq_zero_iff.1 hab.symm
    subst hb
    rw [loopI_eq]
    simp only [List.append_nil] at h ⊢
    refine ⟨(.exit 0, ⟨[(0, .sl false 2 (p.map mvP)), (1, .sl false 2 (q.map mvP)), (5, .i p.length), (14, .b false)], [], []⟩), ?_, .inr ⟨by trivial, _, rfl, rfl, rfl⟩⟩
    simp [r124l0, b124l0]
  | cons x a ih =>
    intro b hab hpq h
    cases b with
    | nil => simp at hab
    | cons y b =>
      have hc := eqEqMove x y
      have hat := mv_at p x a
      have hat2 := mv_at q y b
      rw [← hpq] at hat2
      have hlt : (p.length : Int) < (p.length : Int) + ((a.length : Int) + 1) := by omega
      have hab' : a.length = b.length := by simpa using hab
      have hlt2 : (p.length : Int) < (q.length : Int) + ((b.length : Int) + 1) := by omega
      have hw : IntKind.i64.wrap ((p.length : Int) + 1) = (p.length : Int) + 1 := wr (by simp at h; omega)
      rw [loopI_eq]
      simp only [List.map_append, List.map_cons, mvP] at hc hat hat2
      by_cases he : x = y
      · subst he
        obtain ⟨r, hr1, hr2⟩ := ih (p ++ [x]) (q ++ [x]) b hab' (by simpa using hpq) (by simpa using h)
        refine ⟨r, ?_, ?_⟩
        · simp [r124l0, b124l0, hat, hat2, hlt, hlt2, hc, hw, mvP]
          simpa [Int.add_assoc, mvP] using hr1
        · rcases hr2 with ⟨h1, h2⟩ | ⟨h1, h2⟩
          · exact .inl ⟨by simp [h1], h2⟩
          · exact .inr ⟨by simp [h1], h2⟩
      · refine ⟨_, ?_, .inl ⟨by simp [he], rfl⟩⟩
        simp [r124l0, b124l0, hat, hat2, hlt, hlt2, hc, he, mvP]
theorem eqEqMs (nl nl' : Bool) (a b : List Mv) (h : a.length ≤ 9223372036854775807) : callI G 124 [encL nl false a, encL nl' false b] [] = some (.b (decide (a = b)), []) := by
  rw [callI_eq]
  by_cases hab : a.length = b.length
  · obtain ⟨r, hl, hr⟩ := loopEqMs [] [] a b hab rfl (by simpa using h)
    simp only [List.nil_append, List.length_nil, show ((0 : Nat) : Int) = 0 from rfl] at hl
    have hI : (a.length : Int) = b.length := by omega
    cases a with
    | nil =>
      have hb : b = [] := List.length_eq_zero_iff.1 hab.symm
      subst hb
      have e : ∀ (X Y : PV), (X = .nils ∨ X = .sl false 2 []) → (Y = .nils ∨ Y = .sl false 2 []) → body1 G (callI G) (loopI G) 124 [X, Y] [] = some (.b true, []) := by
        intro X Y hX hY
        have hlp : ∀ X Y, (X = .nils ∨ X = .sl false 2 []) → (Y = .nils ∨ Y = .sl false 2 []) → loopI G [0, 1, 5] [] c124l0 ⟨[(0, X), (1, Y), (5, .i 0)], [], []⟩ = some (.exit 0, ⟨[(0, X), (1, Y), (5, .i 0), (14, .b false)], [], []⟩) := by
          intro X Y hX hY
          rw [loopI_eq]
          rcases hX with rfl | rfl <;> rcases hY with rfl | rfl <;> simp [r124l0, b124l0]
        have h1 := hlp X Y hX hY
        rcases hX with rfl | rfl <;> rcases hY with rfl | rfl <;> simp [body1_eq _ _ (gp 124) g124, c124, a124, h1]
      rw [e _ _ (by unfold encL; split <;> simp) (by unfold encL; split <;> simp)]
      simp
    | cons x a =>
      cases b with
      | nil => simp at hab
      | cons y b =>
        simp only [encL_c, List.map_cons] at hl ⊢
        simp only [List.length_cons, Nat.add_right_cancel_iff] at hab
        rcases hr with ⟨h1, h2⟩ | ⟨h1, s, h2, h3, h4⟩
        · subst h2
          simp only [List.cons.injEq, ne_eq] at h1
          simp [body1_eq _ _ (gp 124) g124, c124, a124, hab, hl, h1]
        · subst h2
          obtain ⟨sr, sl, so⟩ := s
          simp only at h3 h4
          subst h3 h4
          simp only [List.cons.injEq] at h1
          obtain ⟨rfl, rfl⟩ := h1
          simp [body1_eq _ _ (gp 124) g124, c124, a124, hl]
  · have hI : ¬ (a.length : Int) = b.length := by omega
    have hne : a ≠ b := fun e => hab (by rw [e])
    simp [body1_eq _ _ (gp 124) g124, c124, a124, hI, hne]
theorem loopEqMss (nl nl' : Bool) (p q : Gr) : ∀ (a b : Gr), (∀ l ∈ a, l.length ≤ 9223372036854775807) → a.length = b.length → p.length = q.length → (p ++ a).length ≤ 9223372036854775807 →
    ∃ r, loopI G [0, 1, 5] [] c68l0 ⟨[(0, .sl false 1 (encGs nl false (p ++ a))), (1, .sl false 1 (encGs nl' false (q ++ b))), (5, .i p.length)], [], []⟩ = some r ∧
      ((a ≠ b ∧ r = (.ret, ⟨[(4, .b false)], [], []⟩)) ∨ (a = b ∧ ∃ s, r = (.exit 0, s) ∧ s.o = [] ∧ s.l = [])) := by
  intro a
  induction a generalizing p q with
  | nil =>
    intro b hf hab hpq h
    have hb : b = [] := List.length_eq_zero_iff.1 hab.symm
    subst hb
    rw [loopI_eq]
    simp only [List.append_nil] at h ⊢
    refine ⟨(.exit 0, ⟨[(0, .sl false 1 (encGs nl false p)), (1, .sl false 1 (encGs nl' false q)), (5, .i p.length), (14, .b false)], [], []⟩), ?_, .inr ⟨by trivial, _, rfl, rfl, rfl⟩⟩
    simp [r68l0, b68l0]
  | cons x a ih =>
    intro b hf hab hpq h
    cases b with
    | nil => simp at hab
    | cons y b =>
      have hc := eqEqMs nl nl' x y (hf x List.mem_cons_self)
      have hat := gr_at nl false p x a
      have hat2 := gr_at nl' false q y b
      rw [← hpq] at hat2
      have hlt : (p.length : Int) < (p.length : Int) + ((a.length : Int) + 1) := by omega
      have hab' : a.length = b.length := by simpa using hab
      have hlt2 : (p.length : Int) < (q.length : Int) + ((b.length : Int) + 1) := by omega
      have hw : IntKind.i64.wrap ((p.length : Int) + 1) = (p.length : Int) + 1 := wr (by simp at h; omega)
      rw [loopI_eq]
      by_cases he : x = y
      · subst he
        obtain ⟨r, hr1, hr2⟩ := ih (p ++ [x]) (q ++ [x]) b (fun l hl => hf l (List.mem_cons_of_mem _ hl)) hab' (by simpa using hpq) (by simpa using h)
        refine ⟨r, ?_, ?_⟩
        · simp only [List.append_assoc, List.cons_append, List.nil_append, List.length_append, List.length_cons, List.length_nil, Int.natCast_add, show ((0 + 1 : Nat) : Int) = 1 from rfl] at hr1
          cases x <;> cases nl <;> cases nl' <;> simp only [encL_f, encL_n, encL_c, List.map_nil] at hat hat2 hc <;> simp [r68l0, b68l0, hat, hat2, hlt, hlt2, hc, hw, hr1]
        · rcases hr2 with ⟨h1, h2⟩ | ⟨h1, h2⟩
          · exact .inl ⟨by simp [h1], h2⟩
          · exact .inr ⟨by simp [h1], h2⟩
      · refine ⟨_, ?_, .inl ⟨by simp [he], rfl⟩⟩
        rw [decide_eq_false he] at hc
        cases x <;> cases y <;> cases nl <;> cases nl' <;> simp only [encL_f, encL_n, encL_c, List.map_nil] at hat hat2 hc <;> simp [r68l0, b68l0, hat, hat2, hlt, hlt2, hc]
theorem eqEqG (nl nl' : Bool) (a b : Gr) (h : FitG a) : callI G 20 [encG nl false a, encG nl' false b] [] = some (.b (decide (a = b)), []) := by
  have hm : callI G 68 [encM' nl false a, encM' nl' false b] [] = some (.b (decide (a = b)), []) := by
    rw [callI_eq]
    by_cases hab : a.length = b.length
    · obtain ⟨r, hl, hr⟩ := loopEqMss nl nl' [] [] a b h.2 hab rfl (by simpa using h.1)
      simp only [List.nil_append, List.length_nil, show ((0 : Nat) : Int) = 0 from rfl] at hl
      cases a with
      | nil =>
        have hb : b = [] := List.length_eq_zero_iff.1 hab.symm
        subst hb
        have e : ∀ (X Y : PV), (X = .nils ∨ X = .sl false 1 []) → (Y = .nils ∨ Y = .sl false 1 []) → body1 G (callI G) (loopI G) 68 [X, Y] [] = some (.b true, []) := by
          intro X Y hX hY
          have hlp : ∀ X Y, (X = .nils ∨ X = .sl false 1 []) → (Y = .nils ∨ Y = .sl false 1 []) → loopI G [0, 1, 5] [] c68l0 ⟨[(0, X), (1, Y), (5, .i 0)], [], []⟩ = some (.exit 0, ⟨[(0, X), (1, Y), (5, .i 0), (14, .b false)], [], []⟩) := by
            intro X Y hX hY
            rw [loopI_eq]
            rcases hX with rfl | rfl <;> rcases hY with rfl | rfl <;> simp [r68l0, b68l0]
          have h1 := hlp X Y hX hY
          rcases hX with rfl | rfl <;> rcases hY with rfl | rfl <;> simp [body1_eq _ _ (gp 68) g68, c68, a68, h1]
        rw [e _ _ (by unfold encM'; split <;> simp [encGs]) (by unfold encM'; split <;> simp [encGs])]
        simp
      | cons x a =>
        cases b with
        | nil => simp at hab
        | cons y b =>
          have eg : ∀ (nl : Bool) (x : List Mv) (g : Gr), encGs nl false (x :: g) = encL nl false x :: encGs nl false g := fun _ _ _ => rfl
          simp only [encM_c, eg] at hl ⊢
          simp only [List.length_cons, Nat.add_right_cancel_iff] at hab
          rcases hr with ⟨h1, h2⟩ | ⟨h1, s, h2, h3, h4⟩
          · subst h2
            simp only [List.cons.injEq, ne_eq] at h1
            simp [body1_eq _ _ (gp 68) g68, c68, a68, hab, hl, h1]
          · subst h2
            obtain ⟨sr, sl, so⟩ := s
            simp only at h3 h4
            subst h3 h4
            simp only [List.cons.injEq] at h1
            obtain ⟨rfl, rfl⟩ := h1
            simp [body1_eq _ _ (gp 68) g68, c68, a68, hl]
    · have hI : ¬ (a.length : Int) = b.length := by omega
      have hne : a ≠ b := fun e => hab (by rw [e])
      simp [body1_eq _ _ (gp 68) g68, c68, a68, hI, hne]
  rw [callI_eq]
  by_cases c : a = b
  · rw [decide_eq_true c] at hm ⊢
    rcases encM_cases nl false a with e | ⟨xs, e⟩ <;> rcases encM_cases nl' false b with e' | ⟨ys, e'⟩ <;> simp only [encG, e, e'] at hm ⊢ <;> simp [body1_eq _ _ (gp 20) g20, c20, a20, hm]
  · rw [decide_eq_false c] at hm ⊢
    rcases encM_cases nl false a with e | ⟨xs, e⟩ <;> rcases encM_cases nl' false b with e' | ⟨ys, e'⟩ <;> simp only [encG, e, e'] at hm ⊢ <;> simp [body1_eq _ _ (gp 20) g20, c20, a20, hm]
end Go.Am
end
section
set_option maxRecDepth 10000
set_option linter.unusedSimpArgs false
set_option linter.unusedVariables false
namespace Go.Am
open Go.Proofs
/-! #### marked graphs: every field bears the next number -/
def mkL : Int → List Mv → List Mv
  | _, [] => []
  | k, _ :: l => (k, k + 1) :: mkL (k + 2) l
def mkG : Int → Gr → Gr
  | _, [] => []
  | k, l :: g => mkL k l :: mkG (k + 2 * l.length) g
def cntG : Gr → Int
  | [] => 0
  | l :: g => l.length + cntG g
theorem cntG_pos : ∀ g : Gr, 0 ≤ cntG g
  | [] => Int.le_refl _
  | l :: g => by have := cntG_pos g; simp only [cntG]; omega
@[simp] theorem mkL_len : ∀ (k : Int) (l : List Mv), (mkL k l).length = l.length
  | _, [] => rfl
  | k, _ :: l => by simp [mkL, mkL_len _ l]
@[simp] theorem mkG_len : ∀ (k : Int) (g : Gr), (mkG k g).length = g.length
  | _, [] => rfl
  | k, _ :: l => by simp [mkG, mkG_len _ l]
theorem at_D (D : List PV) (x : PV) (E : List PV) (n : Nat) (h : n = D.length) : nth (D ++ x :: E) n = some x := by
  subst h
  unfold nth
  rw [List.getElem?_append_right (Nat.le_refl _)]
  simp
theorem set_D (D : List PV) (x y : PV) (E : List PV) (n : Nat) (h : n = D.length) : (D ++ x :: E).set n y = D ++ y :: E := by
  subst h
  rw [List.set_append_right _ _ (Nat.le_refl _)]
  simp
theorem loopMkMs (N : Nat) : ∀ (rest : List Mv) (D : List PV) (k : Int), N = D.length + rest.length → N ≤ 4611686018427387904 → 0 ≤ k → k + 2 * rest.length ≤ 4611686018427387904 →
    loopI G [0, 1, 5] [] c125l0 ⟨[(0, .own (0, 0) N), (1, .i k), (5, .i D.length)], [], [[(0, .row 2 (D ++ rest.map mvP))]]⟩ =
      some (.exit 0, ⟨[(0, .own (0, 0) N), (1, .i (k + 2 * rest.length)), (5, .i N), (9, .b false)], [], [[(0, .row 2 (D ++ (mkL k rest).map mvP))]]⟩)
  | [], D, k, hN, hNN, hk0, hk => by
    rw [loopI_eq]
    have e : N = D.length := by simpa using hN
    subst e
    simp [r125l0, b125l0, mkL]
  | x :: rest, D, k, hN, hNN, hk0, hk => by
    simp only [List.length_cons] at hN hk
    have hlt : (D.length : Int) < N := by omega
    have hw : IntKind.i64.wrap ((D.length : Int) + 1) = (D.length : Int) + 1 := wr (by omega)
    have hw1 : IntKind.i64.wrap (k + 1) = k + 1 := wr (by omega)
    have hw2 : IntKind.i64.wrap (k + 2) = k + 2 := wr (by omega)
    have hw3 : IntKind.i64.wrap (k + 1 + 1) = k + 2 := by rw [show k + 1 + 1 = k + 2 by omega]; exact hw2
    have hat := fun y => at_D D y (rest.map mvP) D.length rfl
    have hst := fun x y => set_D D x y (rest.map mvP) D.length rfl
    have hl : ∀ y, (D ++ y :: rest.map mvP).length = N := fun y => by simp; omega
    have hn := loopMkMs N rest (D ++ [.agg [.i k, .i (k + 1)]]) (k + 2) (by simp; omega) hNN (by omega) (by omega)
    have hl3 : N = D.length + (rest.length + 1) := hN
    rw [loopI_eq]
    simp [r125l0, b125l0, mvP, hlt, hw, hw1, hw2, hw3, hat, hst, ← hl3, unAgg]
    have e3 : k + 2 + 2 * (rest.length : Int) = k + 2 * ((rest.length : Int) + 1) := by omega
    rw [e3] at hn
    simpa [mkL, mvP] using hn
theorem eqMkMs (l : List Mv) (k : Int) (hl : l.length ≤ 4611686018427387904) (hk0 : 0 ≤ k) (hk : k + 2 * l.length ≤ 4611686018427387904) :
    callI G 125 [.own (0, 0) l.length, .i k] [[(0, .row 2 (l.map mvP))]] = some (.i (k + 2 * l.length), [[(0, .row 2 ((mkL k l).map mvP))]]) := by
  have h := loopMkMs l.length l [] k (by simp) hl hk0 hk
  simp only [List.nil_append, List.length_nil, show ((0 : Nat) : Int) = 0 from rfl] at h
  rw [callI_eq]
  simp [body1_eq _ _ (gp 125) g125, c125, a125, h]
theorem eqMkMsN (k : Int) : callI G 125 [.nils, .i k] [] = some (.i k, []) := by
  have h : loopI G [0, 1, 5] [] c125l0 ⟨[(0, .nils), (1, .i k), (5, .i 0)], [], []⟩ = some (.exit 0, ⟨[(0, .nils), (1, .i k), (5, .i 0), (9, .b false)], [], []⟩) := by
    rw [loopI_eq]
    simp [r125l0, b125l0]
  rw [callI_eq]
  simp [body1_eq _ _ (gp 125) g125, c125, a125, h]
theorem loopMkMss (nl : Bool) (id : Id) (N : Nat) : ∀ (rest : Gr) (D : List PV) (k : Int) (o : Stack), id.1 < o.length → getS o id = some (.row 1 (D ++ encGs nl true rest)) → N = D.length + rest.length → N ≤ 4611686018427387904 → 0 ≤ k → k + 2 * cntG rest ≤ 4611686018427387904 →
    loopI G [0, 1, 5] [] c69l0 ⟨[(0, .own id N), (1, .i k), (5, .i D.length)], [], o⟩ =
      some (.exit 0, ⟨[(0, .own id N), (1, .i (k + 2 * cntG rest)), (5, .i N), (9, .b false)], [], setS o id (.row 1 (D ++ encGs nl true (mkG k rest)))⟩)
  | [], D, k, o, hid, hg, hN, hNN, hk0, hk => by
    have hne : ¬ id.1 = o.length := by omega
    have e1 : D.length = N := by rw [hN]; simp
    have e2 : setS o id (.row 1 (D ++ encGs nl true (mkG k []))) = o := setS_same o id _ hg
    rw [e2, loopI_eq]
    have hget : ∀ r l, St.get ⟨r, l, o⟩ id = some (.row 1 (D ++ encGs nl true [])) := fun r l => by rw [get_low hid, hg]
    have e3 : encGs nl true [] = [] := rfl
    rw [e3, List.append_nil] at hget
    simp [-St.get, -St.set, r69l0, b69l0, hne, hget, e1, cntG]
  | x :: rest, D, k, o, hid, hg, hN, hNN, hk0, hk => by
    simp only [List.length_cons, cntG] at hN hk
    have hne : ¬ id.1 = o.length := by omega
    have hcp := cntG_pos rest
    have eg : ∀ (x : List Mv) (g : Gr), encGs nl true (x :: g) = encL nl true x :: encGs nl true g := fun _ _ => rfl
    have hlt : (D.length : Int) < N := by omega
    have hget : ∀ r l, St.get ⟨r, l, o⟩ id = some (.row 1 (D ++ encL nl true x :: encGs nl true rest)) := fun r l => by rw [get_low hid, hg, eg]
    have hset : ∀ r l R, St.set ⟨r, l, o⟩ id R = ⟨r, l, setS o id R⟩ := fun r l R => set_low hid
    have hw : IntKind.i64.wrap ((D.length : Int) + 1) = (D.length : Int) + 1 := wr (by omega)
    have hat := fun x => at_D D x (encGs nl true rest) D.length rfl
    have hst := fun x y => set_D D x y (encGs nl true rest) D.length rfl
    have hl2 : ∀ x, (D ++ x :: encGs nl true rest).length = N := fun x => by simp; omega
    have hl3 : N = D.length + (rest.length + 1) := hN
    have hn := loopMkMss nl id N rest (D ++ [encL nl true (mkL k x)]) (k + 2 * x.length) (setS o id (.row 1 (D ++ encL nl true (mkL k x) :: encGs nl true rest))) (by rw [setS_len]; exact hid) (by rw [getS_setS hid]; simp) (by simp; omega) hNN (by omega) (by omega)
    rw [setS_setS] at hn
    have e5 : k + 2 * (x.length : Int) + 2 * cntG rest = k + 2 * ((x.length : Int) + cntG rest) := by omega
    rw [e5] at hn
    simp only [List.append_assoc, List.cons_append, List.nil_append, List.length_append, List.length_cons, List.length_nil, Int.natCast_add, show ((0 + 1 : Nat) : Int) = 1 from rfl] at hn
    rw [loopI_eq]
    by_cases hnx : nl = true ∧ x = []
    · obtain ⟨h1, h2⟩ := hnx
      subst h1 h2
      have hcN := eqMkMsN k
      have hsame : setS o id (.row 1 (D ++ .nils :: encGs true true rest)) = o := setS_same o id _ (by rw [hg, eg]; rfl)
      simp only [mkL, encL_n, hsame, List.length_nil, show ((0 : Nat) : Int) = 0 from rfl, Int.mul_zero, Int.add_zero, Int.zero_add] at hn
      simp only [encL_n] at hget
      simp [-St.get, -St.set, r69l0, b69l0, hne, hget, hlt, hat, ← hl3, hcN, hw, cntG]
      simpa [mkG, mkL, encGs] using hn
    · have hx : encL nl true x = .sl true 2 (x.map mvP) := by
        cases nl with
        | false => rfl
        | true => exact encL_ne (fun e => hnx ⟨rfl, e⟩)
      have hx' : encL nl true (mkL k x) = .sl true 2 ((mkL k x).map mvP) := by
        cases nl with
        | false => rfl
        | true => exact encL_ne (fun e => hnx ⟨rfl, by have := congrArg List.length e; simp at this; exact this⟩)
      have hc := eqMkMs x k (by omega) hk0 (by omega)
      rw [hx] at hget
      rw [hx'] at hn
      simp [-St.get, -St.set, r69l0, b69l0, hne, hget, hset, hlt, hat, hst, ← hl3, hc, hw, unAgg, cntG, setS_len]
      have : (encGs nl true (mkG k (x :: rest))) = encL nl true (mkL k x) :: encGs nl true (mkG (k + 2 * x.length) rest) := rfl
      rw [this, hx']
      simpa using hn
theorem eqMkG (nl : Bool) (g : Gr) (k : Int) (o : Stack) (id : Id) (hid : id.1 < o.length) (hg : getS o id = some (.row 1 (encGs nl true g))) (h1 : g.length ≤ 4611686018427387904) (hk0 : 0 ≤ k) (hk : k + 2 * cntG g ≤ 4611686018427387904) :
    callI G 21 [.agg [.own id g.length], .i k] o = some (.i (k + 2 * cntG g), setS o id (.row 1 (encGs nl true (mkG k g)))) := by
  have hm : ∀ l, callI G 69 [.own id g.length, .i k] (o ++ [l]) = some (.i (k + 2 * cntG g), setS o id (.row 1 (encGs nl true (mkG k g))) ++ [l]) := by
    intro l
    have h := loopMkMss nl id g.length g [] k (o ++ [l]) (by simp; omega) (by rw [getS_app _ _ _ hid]; simpa using hg) (by simp) h1 hk0 hk
    simp only [List.nil_append, List.length_nil, show ((0 : Nat) : Int) = 0 from rfl] at h
    rw [setS_app _ _ _ _ hid] at h
    have hne : ¬ id.1 = o.length + 1 := by omega
    have hne2 : ¬ id.1 = (setS o id (.row 1 (encGs nl true (mkG k g)))).length + 1 := by rw [setS_len]; omega
    rw [callI_eq]
    simp [-St.get, -St.set, body1_eq _ _ (gp 69) g69, c69, a69, h, hne, hne2]
  have hne : ¬ id.1 = o.length := by omega
  have hgo : ∀ r l d, St.get ⟨r, l, o⟩ (o.length, d) = getO l d := fun r l d => get_own
  have hso : ∀ r l d ob, St.set ⟨r, l, o⟩ (o.length, d) ob = ⟨r, setO l d ob, o⟩ := fun r l d ob => set_own
  rw [callI_eq]
  simp [-St.get, -St.set, body1_eq _ _ (gp 21) g21, c21, a21, hm, hne, hgo, hso, setS_len]
theorem eqMkGN (k : Int) : callI G 21 [.agg [.nils], .i k] [] = some (.i k, []) := by
  have h : loopI G [0, 1, 5] [] c69l0 ⟨[(0, .nils), (1, .i k), (5, .i 0)], [], []⟩ = some (.exit 0, ⟨[(0, .nils), (1, .i k), (5, .i 0), (9, .b false)], [], []⟩) := by
    rw [loopI_eq]
    simp [r69l0, b69l0]
  have h2 : callI G 69 [.nils, .i k] [] = some (.i k, []) := by
    rw [callI_eq]
    simp [body1_eq _ _ (gp 69) g69, c69, a69, h]
  rw [callI_eq]
  simp [body1_eq _ _ (gp 21) g21, c21, a21, h2]
/-! #### held -/
theorem loopHlMs : ∀ (rest done : List Mv) (k : Int), done.length + rest.length ≤ 4611686018427387904 → 0 ≤ k → k + 2 * rest.length ≤ 4611686018427387904 →
    loopI G [0, 1, 5] [] c140l0 ⟨[(0, .sl false 2 ((done ++ mkL k rest).map mvP)), (1, .i k), (5, .i done.length)], [], []⟩ =
      some (.exit 0, ⟨[(0, .sl false 2 ((done ++ mkL k rest).map mvP)), (1, .i (k + 2 * rest.length)), (5, .i (done.length + rest.length)), (9, .b false)], [], []⟩)
  | [], done, k, h, hk0, hk => by
    rw [loopI_eq]
    simp [r140l0, b140l0, mkL]
  | x :: rest, done, k, h, hk0, hk => by
    simp only [List.length_cons] at h hk
    have hlt : (done.length : Int) < (done.length : Int) + ((rest.length : Int) + 1) := by omega
    have hw : IntKind.i64.wrap ((done.length : Int) + 1) = (done.length : Int) + 1 := wr (by omega)
    have hw1 : IntKind.i64.wrap (k + 1) = k + 1 := wr (by omega)
    have hw2 : IntKind.i64.wrap (k + 2) = k + 2 := wr (by omega)
    have hw3 : IntKind.i64.wrap (k + 1 + 1) = k + 2 := by rw [show k + 1 + 1 = k + 2 by omega]; exact hw2
    have hat := mv_at done (k, k + 1) (mkL (k + 2) rest)
    have hn := loopHlMs rest (done ++ [(k, k + 1)]) (k + 2) (by simp; omega) (by omega) (by omega)
    have e3 : k + 2 + 2 * (rest.length : Int) = k + 2 * ((rest.length : Int) + 1) := by omega
    rw [e3] at hn
    simp only [List.map_append, List.map_cons, mvP] at hat
    rw [loopI_eq]
    simp [r140l0, b140l0, mkL, mvP, hlt, hw, hw1, hw2, hw3, hat]
    simpa [mvP, Int.add_assoc, Int.add_comm 1] using hn
theorem eqHlMs (nl : Bool) (l : List Mv) (k : Int) (hl : l.length ≤ 4611686018427387904) (hk0 : 0 ≤ k) (hk : k + 2 * l.length ≤ 4611686018427387904) :
    callI G 140 [encL nl false (mkL k l), .i k] [] = some (.i (k + 2 * l.length), []) := by
  by_cases hn : nl = true ∧ l = []
  · obtain ⟨h1, h2⟩ := hn
    subst h1 h2
    have h : loopI G [0, 1, 5] [] c140l0 ⟨[(0, .nils), (1, .i k), (5, .i 0)], [], []⟩ = some (.exit 0, ⟨[(0, .nils), (1, .i k), (5, .i 0), (9, .b false)], [], []⟩) := by
      rw [loopI_eq]
      simp [r140l0, b140l0]
    rw [callI_eq]
    simp [body1_eq _ _ (gp 140) g140, c140, a140, h, mkL]
  · have hx : encL nl false (mkL k l) = .sl false 2 ((mkL k l).map mvP) := by
      cases nl with
      | false => rfl
      | true => exact encL_ne (fun e => hn ⟨rfl, by have := congrArg List.length e; simp at this; exact this⟩)
    have h := loopHlMs l [] k (by simp; omega) hk0 hk
    simp only [List.nil_append, List.length_nil, show ((0 : Nat) : Int) = 0 from rfl] at h
    rw [callI_eq, hx]
    simp [body1_eq _ _ (gp 140) g140, c140, a140, h]
theorem loopHlMss (nl : Bool) : ∀ (rest done : Gr) (k : Int), done.length + rest.length ≤ 4611686018427387904 → 0 ≤ k → k + 2 * cntG rest ≤ 4611686018427387904 →
    loopI G [0, 1, 5] [] c89l0 ⟨[(0, .sl false 1 (encGs nl false (done ++ mkG k rest))), (1, .i k), (5, .i done.length)], [], []⟩ =
      some (.exit 0, ⟨[(0, .sl false 1 (encGs nl false (done ++ mkG k rest))), (1, .i (k + 2 * cntG rest)), (5, .i (done.length + rest.length)), (9, .b false)], [], []⟩)
  | [], done, k, h, hk0, hk => by
    rw [loopI_eq]
    simp [r89l0, b89l0, mkG, cntG]
  | x :: rest, done, k, h, hk0, hk => by
    simp only [List.length_cons, cntG] at h hk
    have hcp := cntG_pos rest
    have hlt : (done.length : Int) < (done.length : Int) + ((rest.length : Int) + 1) := by omega
    have hw : IntKind.i64.wrap ((done.length : Int) + 1) = (done.length : Int) + 1 := wr (by omega)
    have hat := gr_at nl false done (mkL k x) (mkG (k + 2 * x.length) rest)
    have hc := eqHlMs nl x k (by omega) hk0 (by omega)
    have hge : ¬ k + 2 * (x.length : Int) < 0 := by omega
    have hn := loopHlMss nl rest (done ++ [mkL k x]) (k + 2 * x.length) (by simp; omega) (by omega) (by omega)
    have e3 : k + 2 * (x.length : Int) + 2 * cntG rest = k + 2 * ((x.length : Int) + cntG rest) := by omega
    rw [e3] at hn
    simp only [List.append_assoc, List.cons_append, List.nil_append, List.length_append, List.length_cons, List.length_nil, Int.natCast_add, show ((0 + 1 : Nat) : Int) = 1 from rfl] at hn
    rw [loopI_eq]
    have key : ∀ X, encL nl false (mkL k x) = X → (X = .nils ∨ ∃ xs, X = .sl false 2 xs) → loop1 (callI G) (loopI G) [0, 1, 5] [] c89l0 ⟨[(0, .sl false 1 (encGs nl false (done ++ mkG k (x :: rest)))), (1, .i k), (5, .i done.length)], [], []⟩ = some (.exit 0, ⟨[(0, .sl false 1 (encGs nl false (done ++ mkG k (x :: rest)))), (1, .i (k + 2 * cntG (x :: rest))), (5, .i (done.length + (x :: rest).length)), (9, .b false)], [], []⟩) := by
      intro X hX hXc
      rw [hX] at hat hc
      rcases hXc with rfl | ⟨xs, rfl⟩ <;> simp [r89l0, b89l0, mkG, hlt, hw, hat, hc, hge] <;> simpa [cntG, Int.add_assoc, Int.add_comm 1] using hn
    exact key _ rfl (encL_cases _ _ _)
theorem eqHlG (nl : Bool) (g : Gr) (k : Int) (h : g.length ≤ 4611686018427387904) (hk0 : 0 ≤ k) (hk : k + 2 * cntG g ≤ 4611686018427387904) :
    callI G 35 [encG nl false (mkG k g), .i k] [] = some (.i (k + 2 * cntG g), []) := by
  have hcp := cntG_pos g
  have hge : ¬ k + 2 * cntG g < 0 := by omega
  have h2 : callI G 89 [encM' nl false (mkG k g), .i k] [] = some (.i (k + 2 * cntG g), []) := by
    have hl := loopHlMss nl g [] k (by simpa using h) hk0 hk
    simp only [List.nil_append, List.length_nil, show ((0 : Nat) : Int) = 0 from rfl] at hl
    rw [callI_eq]
    by_cases hn : nl = true ∧ g = []
    · obtain ⟨h1, h2⟩ := hn
      subst h1 h2
      have h : loopI G [0, 1, 5] [] c89l0 ⟨[(0, .nils), (1, .i k), (5, .i 0)], [], []⟩ = some (.exit 0, ⟨[(0, .nils), (1, .i k), (5, .i 0), (9, .b false)], [], []⟩) := by
        rw [loopI_eq]
        simp [r89l0, b89l0]
      simp [body1_eq _ _ (gp 89) g89, c89, a89, h, mkG, cntG]
    · have hx : encM' nl false (mkG k g) = .sl false 1 (encGs nl false (mkG k g)) := by
        cases nl with
        | false => rfl
        | true =>
          cases g with
          | nil => exact absurd ⟨rfl, rfl⟩ hn
          | cons x g => rfl
      rw [hx]
      simp [body1_eq _ _ (gp 89) g89, c89, a89, hl]
  rw [callI_eq]
  rcases encM_cases nl false (mkG k g) with e | ⟨xs, e⟩ <;> simp only [encG, e] at h2 ⊢ <;> simp [body1_eq _ _ (gp 35) g35, c35, a35, h2, hge]
end Go.Am
end
section
set_option maxRecDepth 10000
set_option linter.unusedSimpArgs false
set_option linter.unusedVariables false
namespace Go.Am
open Go.Proofs Go.Sort Go.Shelf
theorem eqNaN (a : Int) : callI G 169 [.i a] [] = some (.b false, []) := by
  rw [callI_eq]
  simp [body1_eq _ _ (gp 169) g169, c169, a169]
theorem eqCmp (a b : Int) : callI G 151 [.i a, .i b] [] = some (.i (cmpI a b), []) := by
  have h1 := eqNaN a
  have h2 := eqNaN b
  rw [callI_eq]
  unfold cmpI
  by_cases c1 : a < b
  · simp [body1_eq _ _ (gp 151) g151, c151, a151, h1, h2, c1]
  · by_cases c2 : b < a
    · simp [body1_eq _ _ (gp 151) g151, c151, a151, h1, h2, c1, c2]
    · simp [body1_eq _ _ (gp 151) g151, c151, a151, h1, h2, c1, c2]
theorem eqByMove (x y : Int × Int) : callI G 121 [mvP x, mvP y] [] = some (.i (cmpM x y), []) := by
  have h1 := eqCmp x.1 y.1
  have h2 := eqCmp x.2 y.2
  rw [callI_eq]
  unfold cmpM
  by_cases c1 : cmpI x.1 y.1 = 0
  · simp [body1_eq _ _ (gp 121) g121, c121, a121, mvP, h1, h2, c1]
  · simp [body1_eq _ _ (gp 121) g121, c121, a121, mvP, h1, h2, c1]
theorem cmpM_ge (x y : Mv) : decide (0 ≤ cmpM x y) = !ltM x y := by
  unfold ltM ltOf
  by_cases h : cmpM x y < 0
  · have : ¬ 0 ≤ cmpM x y := by omega
    simp [h, this]
  · have : 0 ≤ cmpM x y := by omega
    simp [h, this]
theorem eqLess (x y : Mv) : callI G 118 [mvP x, mvP y] [] = some (.b (ltM x y), []) := by
  rw [callI_eq]
  have h : ltM x y = (decide (x.1 < y.1) || decide (x.1 = y.1) && decide (x.2 < y.2)) := by
    have := ltM_iff x y
    cases e : ltM x y with
    | true => have := this.1 e; rcases this with h | ⟨h1, h2⟩ <;> simp [*]
    | false =>
      have h3 := (ltM_false x y).1 e
      have : ¬ x.1 < y.1 := by omega
      by_cases c : x.1 = y.1
      · have : ¬ x.2 < y.2 := by omega
        simp [*]
      · simp [*]
  rw [h]
  by_cases c1 : x.1 < y.1
  · simp [body1_eq _ _ (gp 118) g118, c118, a118, mvP, c1]
  · by_cases c2 : x.1 = y.1
    · simp [body1_eq _ _ (gp 118) g118, c118, a118, mvP, c1, c2]
    · simp [body1_eq _ _ (gp 118) g118, c118, a118, mvP, c1, c2]
theorem l6In (n a b : Int) : callI G 60 [.i n, .i a, .i b] [] = some (.b (decide (a ≤ n) && decide (n ≤ b)), []) := by
  rw [callI_eq]
  by_cases h : a ≤ n <;> simp [body1_eq _ _ (gp 60) g60, c60, a60, h]
def actOk (a : Int) : Bool := decide (-4 ≤ a) && decide (a ≤ 4)
theorem eqActS (a : Int) : callI G 83 [.i a] [] = some (.b (actOk a), []) := by
  have h := l6In a (-4) 4
  rw [callI_eq]
  unfold actOk
  simp [body1_eq _ _ (gp 83) g83, c83, a83, h]
theorem eqActI (a : Int) : callI G 86 [.i a] [] = some (.b (actOk a), []) := by
  rw [callI_eq]
  unfold actOk
  by_cases h : -4 ≤ a <;> simp [body1_eq _ _ (gp 86) g86, c86, a86, h]
def mvOk (n : Nat) (m : Mv) : Bool := actOk m.1 && (decide (0 ≤ m.2) && decide (m.2 < n))
def prevOk : Option Mv → Mv → Bool
  | none, _ => true
  | some p, m => ltM p m
def rowOk (n : Nat) : Option Mv → List Mv → Bool
  | _, [] => true
  | p, m :: l => mvOk n m && (prevOk p m && rowOk n (some m) l)
def grOk (g : Gr) : Bool := decide (1 ≤ g.length) && (decide (g.length ≤ 60) && g.all (rowOk g.length none))
theorem last_cases (d : List Mv) : (d = [] ∧ d.getLast? = none) ∨ ∃ d' p, d = d' ++ [p] ∧ d.getLast? = some p := by
  rcases List.eq_nil_or_concat d with h | ⟨d', p, h⟩
  · exact .inl ⟨h, by rw [h]; rfl⟩
  · exact .inr ⟨d', p, by simpa using h, by rw [h]; simp⟩
/-! impl.GraphOk -/
theorem loopOkI0 (g : Gr) (T : PV) (hT : ∀ f n, known f n T = true) (i m : Int) : ∀ (rest done : List Mv), (done ++ rest).length ≤ 9223372036854775807 → g.length ≤ 60 →
    ∃ r, loopI G [1, 4, 18, 19, 20, 24, 25, 26] [1] c64l0 ⟨[(1, .ref (0, 1) 1 0 0), (4, .sl false 2 ((done ++ rest).map mvP)), (18, T), (19, .i m), (20, .i i), (24, .sl false 2 ((done ++ rest).map mvP)), (25, .i (done ++ rest).length), (26, .i done.length)], [(1, .box [PV.sl false 1 (encGs false false g)])], []⟩ = some r ∧
      ((rowOk g.length done.getLast? rest = false ∧ r = (.ret, ⟨[(2, .b false)], [], []⟩)) ∨ (rowOk g.length done.getLast? rest = true ∧ r = (.exit 2, ⟨[(1, .ref (0, 1) 1 0 0), (4, .sl false 2 ((done ++ rest).map mvP)), (18, T), (19, .i m), (20, .i i), (24, .sl false 2 ((done ++ rest).map mvP)), (25, .i (done ++ rest).length), (26, .i (done ++ rest).length), (27, .b false)], [(1, .box [PV.sl false 1 (encGs false false g)])], []⟩)))
  | [], done, h, hg => by
    rw [loopI_eq]
    refine ⟨_, ?_, .inr ⟨rfl, rfl⟩⟩
    simp [r64l0, b64l0, hT]
  | x :: rest, done, h, hg => by
    have hlt : (done.length : Int) < (done.length : Int) + ((rest.length : Int) + 1) := by omega
    have hw : IntKind.i64.wrap ((done.length : Int) + 1) = (done.length : Int) + 1 := wr (by simp at h; omega)
    have hat := mv_at done x rest
    have ha := eqActI x.1
    obtain ⟨r, hn, hr⟩ := loopOkI0 g T hT i m rest (done ++ [x]) (by simpa using h) hg
    have hgl : (done ++ [x]).getLast? = some x := by simp
    rw [hgl] at hr
    simp only [List.append_assoc, List.cons_append, List.nil_append, List.length_append, List.length_cons, List.length_nil, Int.natCast_add, show ((0 + 1 : Nat) : Int) = 1 from rfl, show ((1 : Nat) : Int) = 1 from rfl, List.map_append, List.map_cons, mvP] at hn hr hat
    rw [loopI_eq]
    by_cases h1 : actOk x.1 = true
    · by_cases h2 : x.2 < 0
      · refine ⟨_, ?_, .inl ⟨?_, rfl⟩⟩
        · simp [r64l0, b64l0, hT, hlt, hat, mvP, ha, h1, h2]
        · have : ¬ 0 ≤ x.2 := by omega
          simp [rowOk, mvOk, this]
      · by_cases h3 : (g.length : Int) ≤ x.2
        · refine ⟨_, ?_, .inl ⟨?_, rfl⟩⟩
          · simp [r64l0, b64l0, hT, hlt, hat, mvP, ha, h1, h2, h3]
          · have : ¬ x.2 < g.length := by omega
            simp [rowOk, mvOk, this]
        · have h2' : 0 ≤ x.2 := by omega
          have h3' : x.2 < g.length := by omega
          have hm : mvOk g.length x = true := by simp [mvOk, h1, h2', h3']
          rcases last_cases done with ⟨hd, hl⟩ | ⟨d', p, hd, hl⟩
          · subst hd
            simp only [List.length_nil, List.nil_append, show ((0 : Nat) : Int) = 0 from rfl, List.map_nil, Int.zero_add] at hn hat hlt hw hr ⊢
            refine ⟨r, ?_, ?_⟩
            · simp [r64l0, b64l0, hT, hlt, hat, mvP, ha, h1, h2, h3, hw]
              simpa [mvP] using hn
            · rcases hr with ⟨q1, q2⟩ | ⟨q1, q2⟩
              · exact .inl ⟨by simp [rowOk, prevOk, q1], q2⟩
              · exact .inr ⟨by simp [rowOk, prevOk, q1, hm], by simpa [mvP] using q2⟩
          · have hb := eqByMove p x
            have hge := cmpM_ge p x
            have hdl : (done.length : Int) = (d'.length : Int) + 1 := by rw [hd]; simp
            have hpos : 0 < (done.length : Int) := by omega
            have hne : done ≠ [] := by rw [hd]; simp
            have hwm : IntKind.i64.wrap ((done.length : Int) - 1) = d'.length := by rw [hdl, wr (by simp at h; omega)]; omega
            have hat2 : nth (done.map mvP ++ mvP x :: rest.map mvP) d'.length = some (mvP p) := by
              rw [hd]; simp only [List.map_append, List.map_cons, List.map_nil, List.append_assoc, List.cons_append, List.nil_append]
              exact at_D _ _ _ _ (by simp)
            have hlt2 : (d'.length : Int) < (done.length : Int) + ((rest.length : Int) + 1) := by omega
            simp only [mvP] at hb hat2
            cases hv : ltM p x with
            | false =>
              rw [hv] at hge
              have hge' : 0 ≤ cmpM p x := by simpa using hge
              refine ⟨_, ?_, .inl ⟨by rw [hl]; simp [rowOk, prevOk, hv], rfl⟩⟩
              simp [r64l0, b64l0, hT, hlt, hat, mvP, ha, h1, h2, h3, hpos, hwm, hat2, hlt2, hb, hge', hne]
            | true =>
              rw [hv] at hge
              have hge' : ¬ 0 ≤ cmpM p x := by simpa using hge
              refine ⟨r, ?_, ?_⟩
              · simp [r64l0, b64l0, hT, hlt, hat, mvP, ha, h1, h2, h3, hpos, hwm, hat2, hlt2, hb, hge', hw, hne]
                simpa [mvP] using hn
              · rw [hl]
                rcases hr with ⟨q1, q2⟩ | ⟨q1, q2⟩
                · exact .inl ⟨by simp [rowOk, prevOk, q1], q2⟩
                · exact .inr ⟨by simp [rowOk, prevOk, q1, hm, hv], by simpa [mvP] using q2⟩
    · have h1' : actOk x.1 = false := by simpa using h1
      refine ⟨_, ?_, .inl ⟨by simp [rowOk, mvOk, h1'], rfl⟩⟩
      simp [r64l0, b64l0, hT, hlt, hat, mvP, ha, h1']
theorem loopOkI1 (g : Gr) (hf : FitG g) (hg : g.length ≤ 60) : ∀ (rest done : Gr), g = done ++ rest →
    ∃ r, loopI G [1, 18, 19, 20] [1] c64l1 ⟨[(1, .ref (0, 1) 1 0 0), (18, .sl false 1 (encGs false false g)), (19, .i g.length), (20, .i done.length)], [(1, .box [PV.sl false 1 (encGs false false g)])], []⟩ = some r ∧
      ((rest.all (rowOk g.length none) = false ∧ r = (.ret, ⟨[(2, .b false)], [], []⟩)) ∨ (rest.all (rowOk g.length none) = true ∧ ∃ s, r = (.exit 0, s) ∧ s.o = [] ∧ s.l = [(1, .box [PV.sl false 1 (encGs false false g)])]))
  | [], done, h => by
    rw [loopI_eq]
    have : done.length = g.length := by rw [h]; simp
    refine ⟨(.exit 0, ⟨[(1, .ref (0, 1) 1 0 0), (18, .sl false 1 (encGs false false g)), (19, .i g.length), (20, .i g.length), (21, .b false)], [(1, .box [PV.sl false 1 (encGs false false g)])], []⟩), ?_, .inr ⟨rfl, _, rfl, rfl, rfl⟩⟩
    simp [r64l1, b64l1, this]
  | l :: rest, done, h => by
    have hlt : (done.length : Int) < g.length := by rw [h]; simp; omega
    have hw : IntKind.i64.wrap ((done.length : Int) + 1) = (done.length : Int) + 1 := wr (by omega)
    have hat : nth (encGs false false g) done.length = some (.sl false 2 (l.map mvP)) := by rw [h]; exact gr_at false false done l rest
    have hll : l.length ≤ 9223372036854775807 := hf.2 l (by rw [h]; simp)
    obtain ⟨r0, h0, hr0⟩ := loopOkI0 g (.sl false 1 (encGs false false g)) (by intro f n; rfl) done.length g.length l [] (by simpa using hll) hg
    obtain ⟨r, hn, hr⟩ := loopOkI1 g hf hg rest (done ++ [l]) (by rw [h]; simp)
    simp only [List.nil_append, List.length_nil, show ((0 : Nat) : Int) = 0 from rfl, List.getLast?_nil] at h0 hr0
    rw [loopI_eq]
    rcases hr0 with ⟨q1, q2⟩ | ⟨q1, q2⟩
    · subst q2
      refine ⟨_, ?_, .inl ⟨by simp [q1], rfl⟩⟩
      simp [r64l1, b64l1, hlt, hat, h0]
    · subst q2
      refine ⟨r, ?_, ?_⟩
      · simp [r64l1, b64l1, hlt, hat, h0, hw]
        simpa using hn
      · rcases hr with ⟨p1, p2⟩ | ⟨p1, p2⟩
        · exact .inl ⟨by simp only [List.all_cons, p1, Bool.and_false], p2⟩
        · exact .inr ⟨by simp only [List.all_cons, p1, q1, Bool.and_true], p2⟩
theorem eqOkI (g : Gr) (hf : FitG g) : callI G 64 [encG false false g] [] = some (.b (grOk g), []) := by
  rw [callI_eq]
  unfold grOk
  by_cases h1 : (g.length : Int) < 1
  · have : ¬ 1 ≤ g.length := by omega
    simp [body1_eq _ _ (gp 64) g64, c64, a64, h1, this]
  · have h1' : 1 ≤ g.length := by omega
    by_cases h2 : (60 : Int) < g.length
    · have : ¬ g.length ≤ 60 := by omega
      simp [body1_eq _ _ (gp 64) g64, c64, a64, h1, h2, this]
    · have h2' : g.length ≤ 60 := by omega
      obtain ⟨r, hl, hr⟩ := loopOkI1 g hf h2' g [] rfl
      simp only [List.length_nil, show ((0 : Nat) : Int) = 0 from rfl, encM_f] at hl hr
      rcases hr with ⟨p1, p2⟩ | ⟨p1, s, p2, p3, p4⟩
      · subst p2
        simp only [p1]
        simp [body1_eq _ _ (gp 64) g64, c64, a64, h1, h2, hl]
      · subst p2
        obtain ⟨sr, sl, so⟩ := s
        simp only at p3 p4
        subst p3 p4
        simp only [p1]
        simp [body1_eq _ _ (gp 64) g64, c64, a64, h1, h2, h1', h2', hl]
end Go.Am
end
section
set_option maxRecDepth 10000
set_option linter.unusedSimpArgs false
set_option linter.unusedVariables false
namespace Go.Am
open Go.Proofs Go.Sort Go.Shelf
/-! spec.GraphOk -/
theorem loopOkS0 (g : Gr) (D : Nat) (hD : D < g.length) (hg : g.length ≤ 60) : ∀ (rest done : List Mv), nth (encGs false false g) D = some (.sl false 2 ((done ++ rest).map mvP)) → (done ++ rest).length ≤ 9223372036854775807 →
    ∃ r, loopI G [1, 3, 4] [1] c59l0 ⟨[(1, .ref (0, 1) 1 0 0), (3, .i D), (4, .i done.length)], [(1, .box [PV.sl false 1 (encGs false false g)])], []⟩ = some r ∧
      ((rowOk g.length done.getLast? rest = false ∧ r = (.ret, ⟨[(2, .b false)], [], []⟩)) ∨ (rowOk g.length done.getLast? rest = true ∧ r = (.exit 2, ⟨[(1, .ref (0, 1) 1 0 0), (3, .i D), (4, .i (done ++ rest).length), (25, .b false)], [(1, .box [PV.sl false 1 (encGs false false g)])], []⟩)))
  | [], done, hn, h => by
    have hlt : (D : Int) < g.length := by omega
    rw [loopI_eq]
    refine ⟨_, ?_, .inr ⟨rfl, rfl⟩⟩
    simp only [List.append_nil] at hn
    simp [r59l0, b59l0, hlt, hn]
  | x :: rest, done, hnD, h => by
    have hltD : (D : Int) < g.length := by omega
    have hlt : (done.length : Int) < (done.length : Int) + ((rest.length : Int) + 1) := by omega
    have hw : IntKind.i64.wrap ((done.length : Int) + 1) = (done.length : Int) + 1 := wr (by simp at h; omega)
    have hwg : IntKind.i64.wrap ((g.length : Int) - 1) = (g.length : Int) - 1 := wr (by omega)
    have hat := mv_at done x rest
    have ha := eqActS x.1
    have h6 := l6In x.2 0 ((g.length : Int) - 1)
    obtain ⟨r, hn, hr⟩ := loopOkS0 g D hD hg rest (done ++ [x]) (by simpa using hnD) (by simpa using h)
    have hgl : (done ++ [x]).getLast? = some x := by simp
    rw [hgl] at hr
    simp only [List.append_assoc, List.cons_append, List.nil_append, List.length_append, List.length_cons, List.length_nil, Int.natCast_add, show ((0 + 1 : Nat) : Int) = 1 from rfl, show ((1 : Nat) : Int) = 1 from rfl, List.map_append, List.map_cons, mvP] at hn hr hat hnD
    rw [loopI_eq]
    by_cases h1 : actOk x.1 = true
    · have h6b : (decide (0 ≤ x.2) && decide (x.2 ≤ (g.length : Int) - 1)) = (decide (0 ≤ x.2) && decide (x.2 < g.length)) := by
        congr 1
        exact decide_eq_decide.2 (by omega)
      rw [h6b] at h6
      by_cases h2 : (decide (0 ≤ x.2) && decide (x.2 < g.length)) = true
      · rw [h2] at h6
        have hm : mvOk g.length x = true := by unfold mvOk; rw [h1, h2]; rfl
        rcases last_cases done with ⟨hd, hl⟩ | ⟨d', p, hd, hl⟩
        · subst hd
          simp only [List.length_nil, List.nil_append, show ((0 : Nat) : Int) = 0 from rfl, List.map_nil, Int.zero_add] at hn hat hlt hw hr hnD ⊢
          refine ⟨r, ?_, ?_⟩
          · simp [r59l0, b59l0, hltD, hnD, hlt, hat, mvP, ha, h1, h6, hw, hwg]
            simpa [mvP] using hn
          · rcases hr with ⟨q1, q2⟩ | ⟨q1, q2⟩
            · exact .inl ⟨by simp [rowOk, prevOk, q1], q2⟩
            · exact .inr ⟨by simp [rowOk, prevOk, q1, hm], by simpa [mvP] using q2⟩
        · have hb := eqLess p x
          have hdl : (done.length : Int) = (d'.length : Int) + 1 := by rw [hd]; simp
          have hpos : 0 < (done.length : Int) := by omega
          have hne : done ≠ [] := by rw [hd]; simp
          have hwm : IntKind.i64.wrap ((done.length : Int) - 1) = d'.length := by rw [hdl, wr (by simp at h; omega)]; omega
          have hat2 : nth (done.map mvP ++ mvP x :: rest.map mvP) d'.length = some (mvP p) := by
            rw [hd]; simp only [List.map_append, List.map_cons, List.map_nil, List.append_assoc, List.cons_append, List.nil_append]
            exact at_D _ _ _ _ (by simp)
          have hlt2 : (d'.length : Int) < (done.length : Int) + ((rest.length : Int) + 1) := by omega
          simp only [mvP] at hb hat2
          cases hv : ltM p x with
          | false =>
            rw [hv] at hb
            refine ⟨_, ?_, .inl ⟨by rw [hl]; simp [rowOk, prevOk, hv], rfl⟩⟩
            simp [r59l0, b59l0, hltD, hnD, hlt, hat, mvP, ha, h1, h6, hwg, hpos, hne, hwm, hat2, hlt2, hb]
          | true =>
            rw [hv] at hb
            refine ⟨r, ?_, ?_⟩
            · simp [r59l0, b59l0, hltD, hnD, hlt, hat, mvP, ha, h1, h6, hwg, hpos, hne, hwm, hat2, hlt2, hb, hw]
              simpa [mvP] using hn
            · rw [hl]
              rcases hr with ⟨q1, q2⟩ | ⟨q1, q2⟩
              · exact .inl ⟨by simp [rowOk, prevOk, q1], q2⟩
              · exact .inr ⟨by simp [rowOk, prevOk, q1, hm, hv], by simpa [mvP] using q2⟩
      · have h2' : (decide (0 ≤ x.2) && decide (x.2 < g.length)) = false := by simpa using h2
        rw [h2'] at h6
        refine ⟨_, ?_, .inl ⟨by simp only [rowOk, mvOk, h2', Bool.and_false, Bool.false_and], rfl⟩⟩
        simp [r59l0, b59l0, hltD, hnD, hlt, hat, mvP, ha, h1, h6, hwg]
    · have h1' : actOk x.1 = false := by simpa using h1
      refine ⟨_, ?_, .inl ⟨by simp [rowOk, mvOk, h1'], rfl⟩⟩
      simp [r59l0, b59l0, hltD, hnD, hlt, hat, mvP, ha, h1']
theorem loopOkS1 (g : Gr) (hf : FitG g) (hg : g.length ≤ 60) : ∀ (rest done : Gr), g = done ++ rest →
    ∃ r, loopI G [1, 3] [1] c59l1 ⟨[(1, .ref (0, 1) 1 0 0), (3, .i done.length)], [(1, .box [PV.sl false 1 (encGs false false g)])], []⟩ = some r ∧
      ((rest.all (rowOk g.length none) = false ∧ r = (.ret, ⟨[(2, .b false)], [], []⟩)) ∨ (rest.all (rowOk g.length none) = true ∧ ∃ s, r = (.exit 0, s) ∧ s.o = [] ∧ s.l = [(1, .box [PV.sl false 1 (encGs false false g)])]))
  | [], done, h => by
    rw [loopI_eq]
    have : done.length = g.length := by rw [h]; simp
    refine ⟨(.exit 0, ⟨[(1, .ref (0, 1) 1 0 0), (3, .i g.length), (15, .b false)], [(1, .box [PV.sl false 1 (encGs false false g)])], []⟩), ?_, .inr ⟨rfl, _, rfl, rfl, rfl⟩⟩
    simp [r59l1, b59l1, this]
  | l :: rest, done, h => by
    have hD : done.length < g.length := by rw [h]; simp
    have hlt : (done.length : Int) < g.length := by omega
    have hw : IntKind.i64.wrap ((done.length : Int) + 1) = (done.length : Int) + 1 := wr (by omega)
    have hat : nth (encGs false false g) done.length = some (.sl false 2 (l.map mvP)) := by rw [h]; exact gr_at false false done l rest
    have hll : l.length ≤ 9223372036854775807 := hf.2 l (by rw [h]; simp)
    obtain ⟨r0, h0, hr0⟩ := loopOkS0 g done.length hD hg l [] (by simpa using hat) (by simpa using hll)
    obtain ⟨r, hn, hr⟩ := loopOkS1 g hf hg rest (done ++ [l]) (by rw [h]; simp)
    simp only [List.nil_append, List.length_nil, show ((0 : Nat) : Int) = 0 from rfl, List.getLast?_nil] at h0 hr0
    rw [loopI_eq]
    rcases hr0 with ⟨q1, q2⟩ | ⟨q1, q2⟩
    · subst q2
      refine ⟨_, ?_, .inl ⟨by simp [q1], rfl⟩⟩
      simp [r59l1, b59l1, hlt, h0]
    · subst q2
      refine ⟨r, ?_, ?_⟩
      · simp [r59l1, b59l1, hlt, h0, hw]
        simpa using hn
      · rcases hr with ⟨p1, p2⟩ | ⟨p1, p2⟩
        · exact .inl ⟨by simp only [List.all_cons, p1, Bool.and_false], p2⟩
        · exact .inr ⟨by simp only [List.all_cons, p1, q1, Bool.and_true], p2⟩
theorem eqOkS (g : Gr) (hf : FitG g) : callI G 59 [encG false false g] [] = some (.b (grOk g), []) := by
  rw [callI_eq]
  unfold grOk
  have h6 := l6In g.length 1 60
  by_cases h1 : (1 : Int) ≤ g.length
  · have h1' : 1 ≤ g.length := by omega
    by_cases h2 : (g.length : Int) ≤ 60
    · have h2' : g.length ≤ 60 := by omega
      rw [decide_eq_true h1, decide_eq_true h2] at h6
      obtain ⟨r, hl, hr⟩ := loopOkS1 g hf h2' g [] rfl
      simp only [List.length_nil, show ((0 : Nat) : Int) = 0 from rfl, encM_f] at hl hr
      rcases hr with ⟨p1, p2⟩ | ⟨p1, s, p2, p3, p4⟩
      · subst p2
        simp only [p1]
        simp [body1_eq _ _ (gp 59) g59, c59, a59, h6, hl]
      · subst p2
        obtain ⟨sr, sl, so⟩ := s
        simp only at p3 p4
        subst p3 p4
        simp only [p1]
        simp [body1_eq _ _ (gp 59) g59, c59, a59, h6, h1', h2', hl]
    · have : ¬ g.length ≤ 60 := by omega
      rw [decide_eq_false h2] at h6
      simp [body1_eq _ _ (gp 59) g59, c59, a59, h6, this]
  · have : ¬ 1 ≤ g.length := by omega
    rw [decide_eq_false h1] at h6
    simp [body1_eq _ _ (gp 59) g59, c59, a59, h6, this]
end Go.Am
end
section
set_option maxRecDepth 10000
set_option linter.unusedSimpArgs false
set_option linter.unusedVariables false
namespace Go.Am
open Go.Proofs Go.Sort Go.Shelf
/-- Without neighbours that are the same. -/
def ddup : Mv → List Mv → List Mv
  | _, [] => []
  | p, x :: l => if x = p then ddup p l else x :: ddup x l
def dd : List Mv → List Mv
  | [] => []
  | x :: l => x :: ddup x l
theorem ddup_len : ∀ (p : Mv) (l : List Mv), (ddup p l).length ≤ l.length
  | _, [] => Nat.le_refl _
  | p, x :: l => by
    simp only [ddup]
    split
    · have := ddup_len p l; simp; omega
    · have := ddup_len x l; simp; omega
theorem loopCp0 (id : Id) (N : Nat) (k0 : Nat) : ∀ (rest W M : List Mv) (p : Mv) (o : Stack), id.1 < o.length → getS o id = some (.row 2 ((W ++ (M ++ p :: rest)).map mvP)) → N = W.length + M.length + 1 + rest.length → N ≤ 4611686018427387904 → ∀ k2 : Nat, 1 ≤ k2 → k0 + k2 = W.length + M.length + 1 →
    ∃ Z : List Mv, Z.length = N - (W ++ ddup p rest).length ∧ loopI G [0, 3, 4, 5] [28] c142l0 ⟨[(0, .own id N), (3, .i W.length), (4, .sub id N k0), (5, .i k2)], [], o⟩ =
      some (.exit 2, ⟨[(0, .own id N), (3, .i (W ++ ddup p rest).length), (4, .sub id N k0), (5, .i (k2 + rest.length)), (32, .b false)], [], setS o id (.row 2 (((W ++ ddup p rest) ++ Z).map mvP))⟩)
  | [], W, M, p, o, hid, hg, hN, hNN, k2, hk2, hk => by
    have hne : ¬ id.1 = o.length := by omega
    refine ⟨M ++ [p], by simp [ddup]; simp at hN; omega, ?_⟩
    have e2 : setS o id (.row 2 (((W ++ ddup p []) ++ (M ++ [p])).map mvP)) = o := setS_same o id _ (by simpa [ddup] using hg)
    rw [e2, loopI_eq]
    have hget : ∀ r l, St.get ⟨r, l, o⟩ id = some (.row 2 ((W ++ (M ++ [p])).map mvP)) := fun r l => by rw [get_low hid, hg]
    have hl : N = W.length + (M.length + 1) := by simp at hN; omega
    have hsub : N - k0 = k2 := by simp at hN; omega
    simp [-St.get, -St.set, r142l0, b142l0, hne, hget, ← hl, hsub, ddup]
  | x :: rest, W, M, p, o, hid, hg, hN, hNN, k2, hk2, hk => by
    simp only [List.length_cons] at hN
    have hne : ¬ id.1 = o.length := by omega
    have hget : ∀ r l, St.get ⟨r, l, o⟩ id = some (.row 2 ((W ++ (M ++ p :: x :: rest)).map mvP)) := fun r l => by rw [get_low hid, hg]
    have hset : ∀ r l R, St.set ⟨r, l, o⟩ id R = ⟨r, l, setS o id R⟩ := fun r l R => set_low hid
    have hget2 : ∀ r l R, St.get ⟨r, l, setS o id R⟩ id = some R := fun r l R => by rw [get_low (by rw [setS_len]; exact hid), getS_setS hid]
    have hl : W.length + (M.length + (rest.length + 1 + 1)) = N := by omega
    have hlt : (k2 : Int) < ((N - k0 : Nat) : Int) := by omega
    have hlt2 : (k2 : Int) - 1 < ((N - k0 : Nat) : Int) := by omega
    have hge : (0 : Int) ≤ (k2 : Int) - 1 := by omega
    have htn : ((k2 : Int) - 1).toNat = k2 - 1 := by omega
    have hw : IntKind.i64.wrap ((k2 : Int) + 1) = (k2 : Int) + 1 := wr (by omega)
    have hw1 : IntKind.i64.wrap ((k2 : Int) - 1) = (k2 : Int) - 1 := wr (by omega)
    have hwW : IntKind.i64.wrap ((W.length : Int) + 1) = (W.length : Int) + 1 := wr (by omega)
    have hat : nth (W.map mvP ++ (M.map mvP ++ mvP p :: mvP x :: rest.map mvP)) (k0 + k2) = some (mvP x) := by
      have := at_D ((W ++ (M ++ [p])).map mvP) (mvP x) (rest.map mvP) (k0 + k2) (by simp; omega)
      simpa using this
    have hat1 : nth (W.map mvP ++ (M.map mvP ++ mvP p :: mvP x :: rest.map mvP)) (k0 + (k2 - 1)) = some (mvP p) := by
      have := at_D ((W ++ M).map mvP) (mvP p) ((x :: rest).map mvP) (k0 + (k2 - 1)) (by simp; omega)
      simpa using this
    have hlW : (W.length : Int) < N := by omega
    have hk1 : (1 : Int) ≤ k2 := by omega
    by_cases he : x = p
    · subst he
      obtain ⟨Z, hZ, hn⟩ := loopCp0 id N k0 rest W (M ++ [x]) x o hid (by simpa using hg) (by simp; omega) hNN (k2 + 1) (by omega) (by simp; omega)
      refine ⟨Z, by simpa [ddup] using hZ, ?_⟩
      simp only [Int.natCast_add, show ((1 : Nat) : Int) = 1 from rfl] at hn
      rw [loopI_eq]
      simp only [mvP] at hat hat1
      simp [-St.get, -St.set, r142l0, b142l0, mvP, hne, hget, hl, hk1, hlt, hlt2, hge, htn, hw, hw1, hat, hat1]
      simpa [ddup, Int.add_assoc, Int.add_comm 1] using hn
    · obtain ⟨M', hM', hrow⟩ : ∃ M' : List Mv, M'.length = M.length ∧ (W.map mvP ++ (M.map mvP ++ mvP p :: mvP x :: rest.map mvP)).set W.length (mvP x) = ((W ++ [x]) ++ (M' ++ x :: rest)).map mvP := by
        cases M with
        | nil =>
          refine ⟨[], rfl, ?_⟩
          rw [List.map_nil, List.nil_append, List.set_append_right _ _ (by simp)]
          simp
        | cons m M0 =>
          refine ⟨M0 ++ [p], by simp, ?_⟩
          rw [List.set_append_right _ _ (by simp)]
          simp
      have hatW : ∃ e, nth (W.map mvP ++ (M.map mvP ++ mvP p :: mvP x :: rest.map mvP)) W.length = some (mvP e) := by
        cases M with
        | nil => exact ⟨p, by have := at_D (W.map mvP) (mvP p) (mvP x :: rest.map mvP) W.length (by simp); simpa using this⟩
        | cons m M0 => exact ⟨m, by have := at_D (W.map mvP) (mvP m) (M0.map mvP ++ mvP p :: mvP x :: rest.map mvP) W.length (by simp); simpa using this⟩
      obtain ⟨e, hatW⟩ := hatW
      obtain ⟨Z, hZ, hn⟩ := loopCp0 id N k0 rest (W ++ [x]) M' x (setS o id (.row 2 (((W ++ [x]) ++ (M' ++ x :: rest)).map mvP))) (by rw [setS_len]; exact hid) (by rw [getS_setS hid]) (by simp; omega) hNN (k2 + 1) (by omega) (by simp; omega)
      rw [setS_setS] at hn
      have hdd : W ++ ddup p (x :: rest) = (W ++ [x]) ++ ddup x rest := by simp [ddup, he]
      refine ⟨Z, by rw [hdd]; exact hZ, ?_⟩
      rw [hdd]
      simp only [Int.natCast_add, show ((1 : Nat) : Int) = 1 from rfl] at hn
      rw [loopI_eq]
      have hxp : ¬ (x.1 = p.1 ∧ x.2 = p.2) := fun h => he (Prod.ext h.1 h.2)
      have hdec : (decide (x.1 = p.1) && decide (x.2 = p.2)) = false := by
        rw [← Bool.decide_and]; exact decide_eq_false hxp
      simp only [mvP] at hat hat1 hatW hrow
      simp [-St.get, -St.set, r142l0, b142l0, mvP, hne, hget, hset, hl, hk1, hlt, hlt2, hge, htn, hw, hw1, hwW, hat, hat1, hatW, hdec, hlW, unAgg, hrow, setS_len]
      simpa [mvP, Int.add_assoc, Int.add_comm 1, setS_len] using hn
theorem loopCp1 (id : Id) (N : Nat) : ∀ (rest done : List Mv) (p : Mv) (o : Stack), id.1 < o.length → getS o id = some (.row 2 ((done ++ p :: rest).map mvP)) → N = done.length + 1 + rest.length → N ≤ 4611686018427387904 →
    (ddup p rest = rest ∧ loopI G [0, 3] [] c142l1 ⟨[(0, .own id N), (3, .i (done.length + 1))], [], o⟩ = some (.exit 0, ⟨[(0, .own id N), (3, .i N), (13, .b false)], [], o⟩)) ∨
    loopI G [0, 3] [] c142l1 ⟨[(0, .own id N), (3, .i (done.length + 1))], [], o⟩ = some (.ret, ⟨[(2, .own (o.length, 59) (done ++ p :: ddup p rest).length)], [(59, .row 2 ((done ++ p :: ddup p rest).map mvP))], setS o id .dead⟩)
  | [], done, p, o, hid, hg, hN, hNN => by
    refine .inl ⟨rfl, ?_⟩
    have hl : (done.length : Int) + 1 = N := by simp at hN; omega
    have hne : ¬ id.1 = o.length := by omega
    have hget : ∀ r l, St.get ⟨r, l, o⟩ id = some (.row 2 ((done ++ [p]).map mvP)) := fun r l => by rw [get_low hid, hg]
    have hln : N = done.length + 1 := by simpa using hN
    rw [hl, loopI_eq]
    simp [-St.get, -St.set, r142l1, b142l1, hne, hget, ← hln]
  | x :: rest, done, p, o, hid, hg, hN, hNN => by
    simp only [List.length_cons] at hN
    have hne : ¬ id.1 = o.length := by omega
    have hget : ∀ r l, St.get ⟨r, l, o⟩ id = some (.row 2 ((done ++ p :: x :: rest).map mvP)) := fun r l => by rw [get_low hid, hg]
    have hset : ∀ r l R, St.set ⟨r, l, o⟩ id R = ⟨r, l, setS o id R⟩ := fun r l R => set_low hid
    have hget2 : ∀ r l R, St.get ⟨r, l, setS o id R⟩ id = some R := fun r l R => by rw [get_low (by rw [setS_len]; exact hid), getS_setS hid]
    have hlt : (done.length : Int) + 1 < N := by omega
    have hw : IntKind.i64.wrap ((done.length : Int) + 1 + 1) = (done.length : Int) + 1 + 1 := wr (by omega)
    have hw2 : IntKind.i64.wrap ((done.length : Int) + 2) = (done.length : Int) + 2 := wr (by omega)
    have hw1 : IntKind.i64.wrap ((done.length : Int) + 1 - 1) = (done.length : Int) := by rw [wr (by omega)]; omega
    have hw3 : IntKind.i64.wrap (done.length : Int) = (done.length : Int) := wr (by omega)
    have hlt0 : (done.length : Int) < N := by omega
    have hge0 : (0 : Int) ≤ (done.length : Int) + 1 := by omega
    have hle : (done.length : Int) + 1 ≤ N := by omega
    have hl : done.length + (rest.length + 1 + 1) = N := by omega
    have hat : nth (done.map mvP ++ mvP p :: mvP x :: rest.map mvP) (done.length + 1) = some (mvP x) := by
      have := at_D ((done ++ [p]).map mvP) (mvP x) (rest.map mvP) (done.length + 1) (by simp)
      simpa using this
    have hat1 : nth (done.map mvP ++ mvP p :: mvP x :: rest.map mvP) done.length = some (mvP p) := at_D _ _ _ _ (by simp)
    by_cases he : x = p
    · subst he
      refine .inr ?_
      obtain ⟨Z, hZ, hn⟩ := loopCp0 id N (done.length + 1) rest (done ++ [x]) [] x o hid (by simpa using hg) (by simp; omega) hNN 1 (by omega) (by simp)
      obtain ⟨K, hK⟩ : ∃ K, (done ++ [x]) ++ ddup x rest = K := ⟨_, rfl⟩
      have hK2 : done ++ x :: ddup x (x :: rest) = K := by rw [← hK]; simp [ddup]
      have hdl := ddup_len x rest
      have hKl : K.length ≤ N := by rw [← hK]; simp; omega
      rw [hK] at hn hZ
      obtain ⟨o2, ho2⟩ : ∃ o2, setS o id (.row 2 ((K ++ Z).map mvP)) = o2 := ⟨_, rfl⟩
      rw [ho2] at hn
      have hl2 : o2.length = o.length := by rw [← ho2, setS_len]
      have hget3 : ∀ r l, St.get ⟨r, l, o2⟩ id = some (.row 2 ((K ++ Z).map mvP)) := fun r l => by rw [← ho2]; exact hget2 _ _ _
      have hset3 : ∀ r l R, St.set ⟨r, l, o2⟩ id R = ⟨r, l, setS o id R⟩ := fun r l R => by rw [← ho2, set_low (by rw [setS_len]; exact hid), setS_setS]
      have hset4 : ∀ r l R R', St.set ⟨r, l, setS o id R'⟩ id R = ⟨r, l, setS o id R⟩ := fun r l R R' => by rw [set_low (by rw [setS_len]; exact hid), setS_setS]
      have hgl : ∀ r R, St.get ⟨r, [], setS o id R⟩ (o.length, 59) = none := fun r R => by simp [St.get, setS_len, getO]
      have hsl : ∀ r R R', St.set ⟨r, [], setS o id R⟩ (o.length, 59) R' = ⟨r, [(59, R')], setS o id R⟩ := fun r R R' => by simp [St.set, setS_len, setO]
      have hKZ : K.length + Z.length = N := by omega
      have hKN : N = K.length + (N - K.length) := by omega
      have hKi : (K.length : Int) ≤ N := by omega
      rw [hK2]
      simp only [List.length_append, List.length_cons, List.length_nil, Int.natCast_add, show ((0 + 1 : Nat) : Int) = 1 from rfl, show ((1 : Nat) : Int) = 1 from rfl] at hn
      rw [loopI_eq]
      simp only [mvP] at hat hat1
      simp [-St.get, -St.set, r142l1, b142l1, mvP, hne, hget, hl, hge0, hle, hlt, hlt0, hw, hw1, hw2, hw3, hat, hat1, hn, hl2, hget3, hset3, hset4, hget2, hKZ, hKi, setS_len, hgl, hsl]
      exact hKN
    · rcases loopCp1 id N rest (done ++ [p]) x o hid (by simpa using hg) (by simp; omega) hNN with ⟨hd, hn⟩ | hn
      · refine .inl ⟨by simp [ddup, he, hd], ?_⟩
        simp only [List.length_append, List.length_cons, List.length_nil, Int.natCast_add, show ((0 + 1 : Nat) : Int) = 1 from rfl, show ((1 : Nat) : Int) = 1 from rfl] at hn
        have hxp : ¬ (x.1 = p.1 ∧ x.2 = p.2) := fun h => he (Prod.ext h.1 h.2)
        have hdec : (decide (x.1 = p.1) && decide (x.2 = p.2)) = false := by
          rw [← Bool.decide_and]; exact decide_eq_false hxp
        rw [loopI_eq]
        simp only [mvP] at hat hat1
        simp [-St.get, -St.set, r142l1, b142l1, mvP, hne, hget, hl, hge0, hle, hlt, hlt0, hw, hw1, hw2, hw3, hat, hat1, hdec]
        simpa [Int.add_assoc] using hn
      · refine .inr ?_
        simp only [List.length_append, List.length_cons, List.length_nil, Int.natCast_add, show ((0 + 1 : Nat) : Int) = 1 from rfl, show ((1 : Nat) : Int) = 1 from rfl] at hn
        have hxp : ¬ (x.1 = p.1 ∧ x.2 = p.2) := fun h => he (Prod.ext h.1 h.2)
        have hdec : (decide (x.1 = p.1) && decide (x.2 = p.2)) = false := by
          rw [← Bool.decide_and]; exact decide_eq_false hxp
        rw [loopI_eq]
        simp only [mvP] at hat hat1
        simp [-St.get, -St.set, r142l1, b142l1, mvP, hne, hget, hl, hge0, hle, hlt, hlt0, hw, hw1, hw2, hw3, hat, hat1, hdec]
        have hlen : done.length + 1 + ((ddup x rest).length + 1) = done.length + ((ddup x rest).length + 1 + 1) := by omega
        simpa [ddup, he, Int.add_assoc, mvP, hlen] using hn
end Go.Am
end
section
set_option maxRecDepth 10000
set_option linter.unusedSimpArgs false
set_option linter.unusedVariables false
namespace Go.Am
open Go.Proofs Go.Sort Go.Shelf
theorem get_setS_top {r : Regs} {l : Objs} {o : Stack} {id : Id} {R : OB} {d : Nat} : St.get ⟨r, l, setS o id R⟩ (o.length, d) = getO l d := by simp [St.get, setS_len]
theorem set_setS_top {r : Regs} {l : Objs} {o : Stack} {id : Id} {R R' : OB} {d : Nat} : St.set ⟨r, l, setS o id R⟩ (o.length, d) R' = ⟨r, setO l d R', setS o id R⟩ := by simp [St.set, setS_len]
theorem eqCompact (id : Id) (l : List Mv) (o : Stack) (hid : id.1 < o.length) (hg : getS o id = some (.row 2 (l.map mvP))) (hN : l.length ≤ 4611686018427387904) :
    (dd l = l ∧ callI G 142 [.own id l.length] o = some (.own id l.length, o)) ∨ callI G 142 [.own id l.length] o = some (.sl true 2 ((dd l).map mvP), setS o id .dead) := by
  have hne : ¬ id.1 = o.length := by omega
  have hgl : ∀ r l R, St.get ⟨r, l, setS o id R⟩ (o.length, 59) = getO l 59 := fun r l R => by simp [St.get, setS_len]
  have hget : ∀ r l', St.get ⟨r, l', o⟩ id = some (.row 2 (l.map mvP)) := fun r l' => by rw [get_low hid, hg]
  rw [callI_eq]
  match l, hg, hN, hget with
  | [], hg, hN, hget =>
    refine .inl ⟨rfl, ?_⟩
    simp [-St.get, -St.set, body1_eq _ _ (gp 142) g142, c142, a142, hne, hget, hid]
  | [x], hg, hN, hget =>
    refine .inl ⟨rfl, ?_⟩
    simp [-St.get, -St.set, body1_eq _ _ (gp 142) g142, c142, a142, hne, hget, hid]
  | x :: y :: l, hg, hN, hget =>
    have h2 : ¬ ((l.length : Int) + 1 + 1 < 2) := by omega
    rcases loopCp1 id (x :: y :: l).length (y :: l) [] x o hid (by simpa using hg) (by simp; omega) hN with ⟨hd, hn⟩ | hn
    · refine .inl ⟨by simp [dd, hd], ?_⟩
      simp only [List.length_cons, List.length_nil, Int.natCast_add, show ((0 : Nat) : Int) = 0 from rfl, show ((1 : Nat) : Int) = 1 from rfl, Int.zero_add] at hn
      simp [-St.get, -St.set, body1_eq _ _ (gp 142) g142, c142, a142, hne, hget, hid, h2, hn]
    · refine .inr ?_
      simp only [List.length_cons, List.length_nil, Int.natCast_add, show ((0 : Nat) : Int) = 0 from rfl, show ((1 : Nat) : Int) = 1 from rfl, Int.zero_add, List.nil_append] at hn
      simp [-St.get, -St.set, body1_eq _ _ (gp 142) g142, c142, a142, hne, hget, hid, h2, hn, dd, setS_len, hgl]
theorem eqCompactN (o : Stack) : callI G 142 [.nils] o = some (.nils, o) := by
  rw [callI_eq]
  simp [-St.get, -St.set, body1_eq _ _ (gp 142) g142, c142, a142]
/-- What tidy makes. -/
def srtM (l : List Mv) : List Mv := l.mergeSort fun x y => !ltM y x
def tidyL (l : List Mv) : List Mv := dd (srtM l)
theorem eqTidy (id : Id) (l : List Mv) (o : Stack) (hid : id.1 < o.length) (hg : getS o id = some (.row 2 (l.map mvP))) (hN : l.length < 4611686018427387904) :
    (tidyL l = srtM l ∧ callI G 91 [.own id l.length] o = some (.own id l.length, setS o id (.row 2 ((tidyL l).map mvP)))) ∨ callI G 91 [.own id l.length] o = some (.sl true 2 ((tidyL l).map mvP), setS o id .dead) := by
  have hne : ¬ id.1 = o.length := by omega
  have hid2 : id.1 < (o ++ [[]]).length := by simp; omega
  have hS : sortP 121 ltM [.own id l.length, .clo 121 []] (o ++ [[]]) = some (.tup [], setS o id (.row 2 ((srtM l).map mvP)) ++ [[]]) := by
    simp [sortP, hN, getS_app _ _ _ hid, hg, unMs_map, setS_app _ _ _ _ hid]
    rfl
  have hsl : (srtM l).length = l.length := by simp [srtM]
  have hc := eqCompact id (srtM l) (setS o id (.row 2 ((srtM l).map mvP)) ++ [[]]) (by simp [setS_len]; omega) (by rw [getS_app _ _ _ (by rw [setS_len]; exact hid), getS_setS hid]) (by simp [srtM]; omega)
  rw [hsl, setS_app _ _ _ _ (by rw [setS_len]; exact hid), setS_setS] at hc
  rw [callI_eq]
  rcases hc with ⟨hd, hc⟩ | hc
  · refine .inl ⟨hd, ?_⟩
    rw [tidyL, hd]
    simp [-St.get, -St.set, body1_eq _ _ (gp 91) g91, c91, a91, hne, hid, eqSortM, hS, hc, setS_len]
  · refine .inr ?_
    simp [-St.get, -St.set, body1_eq _ _ (gp 91) g91, c91, a91, hne, hid, eqSortM, hS, hc, setS_len, tidyL, get_setS_top, set_setS_top]
theorem eqTidyN (o : Stack) : callI G 91 [.nils] o = some (.nils, o) := by
  have hS : sortP 121 ltM [.nils, .clo 121 []] [] = some (.tup [], []) := by simp [sortP]
  rw [callI_eq]
  simp [-St.get, -St.set, body1_eq _ _ (gp 91) g91, c91, a91, eqSortM, hS, eqCompactN]
end Go.Am
end
