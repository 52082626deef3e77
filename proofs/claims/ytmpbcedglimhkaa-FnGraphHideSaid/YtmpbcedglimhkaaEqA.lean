/- What the functions that the law reaches compute. -/
import Derived.Test.YtmpbcedglimhkaaAnC
import Derived.IntWalk
import Derived.Test.YtmpbcedglimhkaaCoA
import Derived.Shelf.SlSortCmp.NoneTotal
import Derived.Shelf.SlLaysF0
import Derived.Shelf.SlGeneric
import Derived.Ground.SlsfProg
import Derived.Test.YtmpbcedglimhkaaProg
import Derived.Shelf.Sort.Plain
import Derived.Shelf.Slices.In.SortNone
import Derived.Ground.NamesProg
import Derived.Shelf.Lays
section
/- The reader of a code: its object, and what a byte's choice comes to. -/
set_option maxRecDepth 10000
set_option linter.unusedSimpArgs false
set_option linter.unusedVariables false
namespace Go.Am
/-- A byte. -/
def byV (n : Nat) : PV := .sc (.int .u8 n)
def byVs (B : List Nat) : List PV := B.map byV
/-- The reader's object: the code's bytes, and the place. -/
def rd (B : List Nat) (p : Int) : OB := .box [.sl false 1 (byVs B), .i p]
theorem byVs_len (B : List Nat) : (byVs B).length = B.length := by simp [byVs]
theorem byVs_at (B : List Nat) (k : Nat) (h : k < B.length) : nth (byVs B) k = some (byV B[k]) := by
  simp [nth, byVs, h]
theorem wrD {n : Int} (h : -9223372036854775808 ≤ n ∧ n ≤ 9223372036854775807) : IntKind.i64.wrap n = n := by
  simp only [IntKind.wrap, IntKind.bits, IntKind.signed]
  simp
  omega
@[simp] theorem b_xor (k : IntKind) (a b : Int) : bin .xor (.sc (.int k a)) (.sc (.int k b)) = some (.sc (.int k (bxor k a b))) := by simp [bin]
theorem bxor_nn (a b : Int) (ha : 0 ≤ a) (ha2 : a < 4611686018427387904) (hb : 0 ≤ b) (hb2 : b < 4611686018427387904) : 0 ≤ bxor .i64 a b ∧ bxor .i64 a b < 4611686018427387904 := by
  have h1 : (BitVec.ofInt 64 a ^^^ BitVec.ofInt 64 b).toNat < 2 ^ 62 := by
    rw [BitVec.toNat_xor]
    refine Nat.xor_lt_two_pow ?_ ?_
    · rw [BitVec.toNat_ofInt]; omega
    · rw [BitVec.toNat_ofInt]; omega
  have e : bxor .i64 a b = ((BitVec.ofInt 64 a ^^^ BitVec.ofInt 64 b).toNat : Int) := by
    unfold bxor
    show IntKind.i64.wrap ((BitVec.ofInt 64 a ^^^ BitVec.ofInt 64 b).toNat : Int) = _
    exact wrD (by omega)
  rw [e]
  omega
end Go.Am
end
section
set_option maxRecDepth 10000
set_option linter.unusedSimpArgs false
set_option linter.unusedVariables false
namespace Go.Am
open Go.Proofs
theorem bytes_of : ∀ (n : Nat) (css : List (List PV)), (∀ cs ∈ css, Ty Try.prog n 5 cs) → ∃ B : List Nat, css.map (mkE Try.prog 5) = byVs B ∧ B.length = css.length ∧ ∀ b ∈ B, b < 256
  | _, [], _ => ⟨[], rfl, rfl, fun b hb => by cases hb⟩
  | 0, cs :: css, h => (h cs List.mem_cons_self).elim
  | n + 1, cs :: css, h => by
    have h1 := h cs List.mem_cons_self
    simp only [Ty, Try.underlying5] at h1
    obtain ⟨b, rfl, hb⟩ := h1
    obtain ⟨B, h3, h4, h5⟩ := bytes_of (n + 1) css (fun c hc => h c (List.mem_cons_of_mem _ hc))
    have hb2 : 0 ≤ b ∧ b < 256 := by
      simp [Lit.wf, IntKind.min, IntKind.max, IntKind.bits, IntKind.signed] at hb
      omega
    refine ⟨b.toNat :: B, ?_, by simp [h4], fun x hx => ?_⟩
    · rw [List.map_cons, h3]
      have : ((b.toNat : Nat) : Int) = b := by omega
      simp [mkE, isAg, Try.underlying5, byVs, byV, this]
    · rcases List.mem_cons.1 hx with rfl | hx
      · omega
      · exact h5 x hx
theorem ty_bytes : ∀ (n : Nat) (x : PV), Ty Try.prog n 22 [x] → ∃ B : List Nat, x = .sl false 1 (byVs B) ∧ B.length ≤ 9223372036854775807 ∧ ∀ b ∈ B, b < 256
  | 0, _, h => h.elim
  | n + 1, x, h => by
    simp only [Ty, Try.underlying22] at h
    obtain ⟨css, e, hl, hc⟩ := h
    obtain ⟨B, h1, h2, h3⟩ := bytes_of n css hc
    rw [h1] at e
    refine ⟨B, ?_, by rw [h2]; exact hl, h3⟩
    have := List.cons.inj e
    rw [this.1, show Try.prog.cellsOf 5 = 1 from by kernel_rfl]
end Go.Am
end
section
/- slices.SortFunc at pairs of numbers, by the library's contract. -/
set_option linter.unusedSimpArgs false
set_option linter.unusedVariables false
namespace Go.Am
open Go.RowKit Go.Shelf Go.Lib Go.Sort Go.Proofs
def mvP (x : Int × Int) : PV := .agg [.i x.1, .i x.2]
def encM (x : Int × Int) : List Value := [.int .i64 x.1, .int .i64 x.2]
def unM : PV → Option (Int × Int)
  | .agg [.sc (.int .i64 a), .sc (.int .i64 b)] => some (a, b)
  | _ => none
def unMs : List PV → Option (List (Int × Int))
  | [] => some []
  | x :: xs => match unM x, unMs xs with | some a, some r => some (a :: r) | _, _ => none
theorem unM_eq {x : PV} {a : Int × Int} (h : unM x = some a) : x = mvP a := by
  unfold unM at h
  split at h
  · simp only [Option.some.injEq] at h; subst h; rfl
  · cases h
theorem unMs_eq : ∀ {xs : List PV} {ds : List (Int × Int)}, unMs xs = some ds → xs = ds.map mvP
  | [], _, h => by simp only [unMs, Option.some.injEq] at h; subst h; rfl
  | x :: xs, _, h => by
    simp only [unMs] at h
    split at h
    · rename_i a r h1 h2
      simp only [Option.some.injEq] at h
      subst h
      rw [List.map_cons, ← unM_eq h1, ← unMs_eq h2]
    · cases h
@[simp] theorem unM_mvP (a : Int × Int) : unM (mvP a) = some a := rfl
@[simp] theorem unMs_map : ∀ ds : List (Int × Int), unMs (ds.map mvP) = some ds
  | [] => rfl
  | a :: ds => by simp [unMs, unMs_map ds]
/-- What a sort by a comparing function does. -/
def sortP (g : Nat) (lt : Int × Int → Int × Int → Bool) : List PV → Stack → Option (PV × Stack)
  | [.nils, .clo g' []], o => if g' = g then some (.tup [], o) else none
  | [.own id n, .clo g' []], o => if g' = g ∧ n < 4611686018427387904 then match getS o id with
      | some (.row k xs) => if k = 2 ∧ n = xs.length then match unMs xs with
          | some ds => some (.tup [], setS o id (.row 2 ((ds.mergeSort fun x y => !lt y x).map mvP)))
          | none => none
        else none
      | _ => none
    else none
  | _, _ => none
theorem Rs_mv {c : Ctx} {S : Sto} {h : Hp} : ∀ {ds : List (Int × Int)} {vs : List Value} {f : List Nat}, Rs c S h (ds.map mvP) vs f ↔ vs = ds.flatMap encM ∧ f = []
  | [], vs, f => Iff.rfl
  | a :: ds, vs, f => by
    constructor
    · rintro ⟨v1, v2, f1, f2, rfl, rfl, r1, r2⟩
      obtain ⟨rfl, rfl⟩ := Rs_mv.1 r2
      obtain ⟨_, u1, u2, g1, g2, rfl, rfl, ⟨rfl, rfl, _⟩, u3, u4, g3, g4, rfl, rfl, ⟨rfl, rfl, _⟩, rfl, rfl⟩ := r1
      exact ⟨rfl, rfl⟩
    · rintro ⟨rfl, rfl⟩
      refine ⟨encM a, ds.flatMap encM, [], [], rfl, rfl, ⟨rfl, [.int .i64 a.1], [.int .i64 a.2], [], [], rfl, rfl, ⟨rfl, rfl, rfl⟩, [.int .i64 a.2], [], [], [], rfl, rfl, ⟨rfl, rfl, rfl⟩, rfl, rfl⟩, Rs_mv.2 ⟨rfl, rfl⟩⟩
theorem flat_at : ∀ (ds : List (Int × Int)) (j : Nat), j < ds.length * 2 → (ds.flatMap encM)[j]? = some (encM ds.toArray[j / 2]!)[j % 2]!
  | [], j, h => by simp at h
  | a :: ds, 0, h => by simp [encM]
  | a :: ds, 1, h => by simp [encM]
  | a :: ds, j + 2, h => by
    simp only [List.length_cons] at h
    have ih := flat_at ds j (by omega)
    have e1 : (j + 2) / 2 = j / 2 + 1 := by omega
    have e2 : (j + 2) % 2 = j % 2 := by omega
    simp only [List.flatMap_cons]
    rw [List.getElem?_append_right (by simp [encM]), e1, e2]
    simp only [show (encM a).length = 2 from rfl, Nat.add_sub_cancel, ih]
    congr 2
    have : j / 2 < ds.length := by omega
    simp [this]
theorem flat_len (ds : List (Int × Int)) : (ds.flatMap encM).length = ds.length * 2 := by
  induction ds with
  | nil => rfl
  | cons a ds ih => simp [encM, ih]; omega
section
variable {P : Program}
theorem isGo.enters {f : Nat} (hgo : isGo P f) : ∀ args w, (callFunc f args).run P w = .ok (.enter f args) w := by
  intro args w
  obtain ⟨fn, h1, h2, h3⟩ := hgo
  have h4 : fn.body.isNone = false := by cases hb : fn.body <;> simp [hb] at h2 ⊢
  have h5 : ¬ fn.body = none := fun h => by rw [h] at h2; cases h2
  simp [callFunc, h1, h3, h4, h5]
theorem grown_of {W w' : World} (hg : Grew W w') (hb : ∀ b o, hp W b = some o → hp w' b = some o) : ∃ q os', w' = grow (W.drewN q) os' := by
  refine ⟨w'.drawn - W.drawn, w'.heap.extract W.heap.size w'.heap.size, ?_⟩
  have h1 := hg.os; have h2 := hg.tape; have h3 := hg.output; have h4 := hg.size; have h5 := hg.dr
  have hh : w'.heap = W.heap ++ w'.heap.extract W.heap.size w'.heap.size := by
    apply Array.ext_getElem?
    intro i
    by_cases hi : i < W.heap.size
    · rw [Array.getElem?_append_left hi]
      have := hb i W.heap[i] (by simp [hp, hi])
      simp only [hp] at this
      rw [this]; simp [hi]
    · rw [Array.getElem?_append_right (by omega)]
      simp only [Array.getElem?_extract]
      split
      · congr 1; omega
      · rw [Array.getElem?_eq_none (by omega)]
  have hd : w'.drawn = W.drawn + (w'.drawn - W.drawn) := by omega
  cases w'; cases W
  simp only [grow, World.drewN] at *
  subst h1 h2 h3
  congr 1
theorem lays_of {g : Nat} {x y : Int × Int} {r : Int} (hg : Good P g [mvP x, mvP y] [] (.i r) []) (W : World) :
    Calls P g #[.agg (encM x).toArray, .agg (encM y).toArray] W fun e w' => e = .returned (.int .i64 r) ∧ ∃ q os', w' = grow (W.drewN q) os' := by
  have hv : ∀ z : Int × Int, RVal (cAll W) (gt []) (hp W) (mvP z) (.agg (encM z).toArray) := fun z => ⟨encM z, rfl, rfl, ⟨[.int .i64 z.1], [.int .i64 z.2], [], [], rfl, rfl, ⟨rfl, rfl, rfl⟩, [.int .i64 z.2], [], [], [], rfl, rfl, ⟨rfl, rfl, rfl⟩, rfl, rfl⟩⟩
  refine (hg.2 (cAll W) (fun _ => []) W _ (cAll_ok W) ⟨_, _, rfl, hv x, _, _, rfl, hv y, rfl⟩).mono fun e w' hend => ?_
  obtain ⟨_, v, c', fp', f', rfl, hgw, hst, hadv, hfr, hret⟩ := hend
  have hv' : v = .int .i64 r := by
    have h : [v] = [Value.int .i64 r] := hret.2.1
    simpa using h
  subst hv'
  exact ⟨rfl, grown_of hgw fun b o hb => hst.okF b o (.inl (hadv.F b o hb))⟩
theorem sortP_good {ρ : Ren} (L : SlLaysF0.n6 P ρ) (aE : ∀ w, (isAgg (ρ.t 24)).run P w = .ok true w) (zE : ∀ w, (Go.sizeOf (ρ.t 24)).run P w = .ok 2 w) (hgo : isGo P (ρ.f 6)) {g : Nat} {cf : Int × Int → Int × Int → Int} (hO : SWO (ltOf cf))
    (hT : ∀ x y, (ltOf cf) x y = false → (ltOf cf) y x = false → x = y) (hc : ∀ x y, Good P g [mvP x, mvP y] [] (.i (cf x y)) []) {args : List PV} {o o' : Stack} {r : PV} (e : sortP g (ltOf cf) args o = some (r, o')) : Good P (ρ.f 6) args o r o' := by
  refine ⟨hgo, fun c fp w vals ok hr => ?_⟩
  unfold sortP at e
  split at e
  · -- nil
    rename_i g'
    split at e
    · rename_i hg
      subst hg
      simp only [Option.some.injEq, Prod.mk.injEq] at e
      obtain ⟨rfl, rfl⟩ := e
      obtain ⟨v, _, rfl, ⟨_, A, hv⟩, u, _, rfl, ⟨_, cv, hu, _, hcv⟩, rfl⟩ := hr
      have hv : v = .slice A 0 0 := by simpa using hv
      subst hv
      refine (AnyF.slices_SortFunc_none L A 0 u w).mono fun e w' hend => ?_
      obtain ⟨rfl, rfl⟩ := hend
      exact ⟨⟨rfl, fun id ob h => ⟨ob, h⟩⟩, _, c, fp, [], rfl, Grew.refl _, ok, Adv.refl _ _, Free.nil, [], rfl, rfl, rfl⟩
    · cases e
  · -- a row
    rename_i id n g'
    split at e
    · rename_i hg
      obtain ⟨rfl, hn⟩ := hg
      split at e
      · rename_i k xs hs
        split at e
        · rename_i hk
          obtain ⟨rfl, rfl⟩ := hk
          split at e
          · rename_i ds hds
            simp only [Option.some.injEq, Prod.mk.injEq] at e
            obtain ⟨rfl, rfl⟩ := e
            obtain rfl := unMs_eq hds
            rw [← gt_getS] at hs
            have hid : id.1 < o.length := gt_lv o id _ hs
            obtain ⟨v, _, rfl, hv, u, _, rfl, hu, rfl⟩ := hr
            obtain ⟨_, v', ev, _, hv⟩ := (show R c (gt o) (hp w) (.own id (ds.map mvP).length) [v] [] from hv)
            have : v = v' := by simpa using ev
            subst this
            obtain ⟨_, cv, hu, _, hcv⟩ := (show R c (gt o) (hp w) (.clo g' []) [u] [] from hu)
            have hcv : cv = [] := hcv.1
            subst hcv
            have hu : u = .func (.func g') #[] #[] := by simpa using hu
            subst hu
            simp only [OwnOK, hs] at hv
            have hv := hv.2 trivial
            subst hv
            simp only [List.length_map] at hn ⊢
            obtain ⟨htr, hkr, ro⟩ := ok.ob id _ hs
            generalize hsd : (ds.mergeSort fun x y => !ltOf cf y x) = ds'
            have hsl : ds'.length = ds.length := by rw [← hsd]; exact List.length_mergeSort _
            have hres : ∀ vs', vs' = [Value.slice (c.L id).base ds.length (c.L id).cap, .func (.func g') #[] #[]] → vs'.toArray = #[Value.slice (c.L id).base ds.length (c.L id).cap, .func (.func g') #[] #[]] := fun _ h => by rw [h]
            rcases ro with ⟨hx, hcap, hfp⟩ | ⟨fq, hb, ⟨cur, et, wsr, g1, g2, g3, g4, g5, g6⟩, hfp⟩
            · have hd0 : ds = [] := by simpa using hx
              subst hd0
              have : ds' = [] := List.length_eq_zero_iff.1 hsl
              subst this
              have hsame : setS o id (.row 2 ([].map mvP)) = o := setS_same o id _ (by rw [← gt_getS]; exact hs)
              rw [hsame]
              refine (AnyF.slices_SortFunc_none L _ _ _ w).mono fun e w' hend => ?_
              obtain ⟨rfl, rfl⟩ := hend
              exact ⟨⟨rfl, fun id ob h => ⟨ob, h⟩⟩, _, c, fp, [], rfl, Grew.refl _, ok, Adv.refl _ _, Free.nil, [], rfl, rfl, rfl⟩
            · obtain ⟨rfl, rfl⟩ := Rs_mv.1 g5
              simp only [List.length_map] at g2 g6
              have hlt := hp_lt g1
              have hcurat : ∀ j, j < ds.length * 2 → cur[j]? = some (encM ds.toArray[j / 2]!)[j % 2]! := fun j hj => by
                rw [← flat_at ds j hj, ← g6, List.getElem?_take, if_pos hj]; simp
              have hH : HoldsK encM 2 w (c.L id).blk 0 ds.toArray := by
                intro j hj
                simp only [size_flatK, List.size_toArray] at hj
                refine ⟨?_, ?_⟩
                · rw [Nat.zero_add, cell_of_block g1, hcurat j hj, get_flatK encM 2 ds.toArray j (by simpa using hj)]
                  rfl
                · have : w.heap[(c.L id).blk]? = some (.cells cur et (0, 0)) := g1
                  simp [World.frozen?, this]
              have hcmp : CmpLays P g' #[] encM 2 cf (c.L id).blk 0 ds.toArray.size w := fun _ _ _ _ x y => lays_of (hc x y) _
              have hcon := AnyQ.slices_SortFunc_total L 2 aE zE encM (fun _ => rfl) (fun x v hv => by simp [encM] at hv; rcases hv with rfl | rfl <;> rfl) cf hO g' #[] (c.L id).blk 0 (c.L id).cap ds.toArray w (hc default default).1.enters hcmp hH hlt (by simpa using hn) hT
              rw [hb]
              have hargs : ([Value.slice (some ⟨(c.L id).blk, 0, none⟩) ds.length (c.L id).cap, .func (.func g') #[] #[]] : List Value).toArray = #[Value.slice (some ⟨(c.L id).blk, 0, none⟩) ds.toArray.size (c.L id).cap, .func (.func g') #[] #[]] := by simp
              rw [hargs]
              refine hcon.mono fun e w' hend => ?_
              obtain ⟨rfl, m, os, rfl⟩ := hend
              simp only [List.toList_toArray, hsd]
              -- the new world
              have hheap : ∀ b, b < w.heap.size → hp (sortWorldK encM 2 w (c.L id).blk 0 m ds'.toArray os) b = if (c.L id).blk = b then (hp w b).map (onCells (Go.Sort.putCells _root_.id 0 (flatK encM 2 ds'.toArray))) else hp w b := by
                intro b hb'
                simp only [sortWorldK, putRowK, putRow, mapBlock, grow, hp, Sort.ahead]
                rw [Array.getElem?_append_left (by simpa using hb'), Array.getElem?_modify]
              have hother : ∀ b, b < w.heap.size → b ≠ (c.L id).blk → hp (sortWorldK encM 2 w (c.L id).blk 0 m ds'.toArray os) b = hp w b := fun b hb' hne => by rw [hheap b hb', if_neg (Ne.symm hne)]
              have hblk := hheap _ hlt
              rw [if_pos rfl, g1] at hblk
              simp only [Option.map_some, onCells] at hblk
              generalize hcur' : Go.Sort.putCells _root_.id 0 (flatK encM 2 ds'.toArray) cur = cur' at hblk
              have hsz' : cur'.size = cur.size := by rw [← hcur']; simp [Go.Sort.putCells]
              have htake : cur'.toList.take (ds'.length * 2) = ds'.flatMap encM := by
                apply List.ext_getElem?
                intro j
                rw [List.getElem?_take]
                by_cases hj : j < ds'.length * 2
                · rw [if_pos hj, flat_at ds' j hj, ← hcur']
                  have hjc : j < cur.size := by
                    have := Nat.mul_le_mul_right 2 g2
                    omega
                  simp only [Go.Sort.putCells, Array.getElem?_toList, Array.getElem?_mapIdx, Array.getElem?_eq_getElem hjc, Option.map_some, Nat.zero_le, true_and, Nat.zero_add, size_flatK, List.size_toArray, hj, if_true, Nat.sub_zero, Option.some.injEq]
                  rw [get_flatK encM 2 ds'.toArray j (by simpa using hj)]
                  rfl
                · rw [if_neg hj, List.getElem?_eq_none (by rw [flat_len]; omega)]
              have hfz : ∀ a : Addr, a.block < w.heap.size → (sortWorldK encM 2 w (c.L id).blk 0 m ds'.toArray os).frozen? a = w.frozen? a := by
                intro a ha
                have h1 := hheap a.block ha
                simp only [hp] at h1
                by_cases hab : (c.L id).blk = a.block
                · have h2 : w.heap[a.block]? = some (.cells cur et (0, 0)) := by rw [← hab]; exact g1
                  rw [if_pos hab, h2] at h1
                  simp only [Option.map_some, onCells] at h1
                  simp only [World.frozen?, h1, h2]
                · rw [if_neg hab] at h1
                  simp only [World.frozen?, h1]
              have ha : Adv c (setL c id (c.L id)) (gt o) (upd (gt o) id (.row 2 (ds'.map mvP))) := Adv.row hs (by simp [hsl]) (fun _ => rfl)
              have hfq : (c.L id).blk ∈ fp id := by rw [hfp]; exact List.mem_cons_self
              have hst : StOK (setL c id (c.L id)) (upd (gt o) id (.row 2 (ds'.map mvP))) (hp (sortWorldK encM 2 w (c.L id).blk 0 m ds'.toArray os)) (setF fp id [(c.L id).blk]) := by
                refine ok.reset hs ha ?_ (by simp) (fun b hb' => ?_) (fun b hb' hb2 => hother b hb' (fun e => hb2 (by rw [e]; exact hfq)))
                · refine ⟨?_, ?_, .inr ⟨[], by simpa [setL] using hb, ⟨cur', et, ds'.flatMap encM, by simpa [setL] using hblk, by simp only [setL, if_true, List.length_map]; omega, by simpa [setL] using g3, by simp only [setL, if_true, hsz', g4], Rs_mv.2 ⟨rfl, rfl⟩, by rw [List.length_map]; exact htake⟩, by simp [setL]⟩⟩
                  · clear hsd
                    induction ds' with
                    | nil => rfl
                    | cons a r _ => exact (by
                        have : ∀ l : List (Int × Int), trees (l.map mvP) = true := fun l => by
                          induction l with
                          | nil => rfl
                          | cons b l ih => simp [trees, tree, mvP, ih]
                        exact this _)
                  · intro x hx
                    obtain ⟨a, _, rfl⟩ := List.mem_map.1 hx
                    exact ⟨rfl, rfl⟩
                · simp only [List.mem_singleton] at hb'
                  subst hb'
                  exact ⟨ok.nF id _ hs _ hfq, fun id' ob' hne' hs' => ok.dj id id' _ ob' hs hs' (Ne.symm hne') _ hfq⟩
              refine ⟨shape_setS hs, .tuple #[], setL c id (c.L id), setF fp id [(c.L id).blk], [], rfl, ⟨rfl, rfl, rfl, ?_, hfz, ?_⟩, ?_, ?_, Free.nil, [], rfl, rfl, rfl⟩
              · simp [sortWorldK, grow, putRowK, putRow, mapBlock, Sort.ahead]
              · simp [sortWorldK, grow, putRowK, putRow, mapBlock, Sort.ahead]
              · rw [gt_setS hid]; exact hst
              · rw [gt_setS hid]; exact ha
          · cases e
        · cases e
      · cases e
    · cases e
  · cases e
end
end Go.Am
end
section
/- The copy of a slice of pairs, as a primitive function: an empty slice may be nil or not. -/
set_option linter.unusedSimpArgs false
set_option linter.unusedVariables false
namespace Go.Am
open Go.Proofs Go.Sort Go.Shelf Go.RowKit
/-- The copy of a row of pairs. -/
def cloneMv : List PV → Stack → Option (PV × Stack)
  | [.sl false k xs], [] => match unMs xs with
      | some ds => if k = 2 ∧ ds.length ≤ 4294967296 then some (.sl true 2 (ds.map mvP), []) else none
      | none => none
  | [.nils], [] => some (.sl true 2 [], [])
  | _, _ => none
theorem ret_nils {c : Ctx} {S : Sto} {h : Hp} {v : Value} {f : List Nat} (k : Nat) (r : Ret c S h .nils v f) : Ret c S h (.sl true k []) v f := by
  obtain ⟨hf, A, hv⟩ := r
  exact ⟨rfl, fun x hx => (by cases hx), A, 0, hv, .inl ⟨rfl, rfl, hf⟩⟩
theorem cloneMv_good {P : Program} {f : Nat} (h0 : ∀ A cp, Good P f [.sc (.slice A 0 cp)] [] (if A.isNone = true then .nils else .sl true 2 []) [])
    (h1 : ∀ (d : Int × Int) (ds : List (Int × Int)), (d :: ds).length ≤ 4294967296 → Good P f [.sl false 2 ((d :: ds).map mvP)] [] (.sl true 2 ((d :: ds).map mvP)) []) {args : List PV} {o o' : Stack} {r : PV} (e : cloneMv args o = some (r, o')) : Good P f args o r o' := by
  have hz : ∀ x, (∀ c S h v, RVal c S h x v → ∃ A cp, v = .slice A 0 cp) → Good P f [x] [] (.sl true 2 []) [] := fun x hx => by
    refine ⟨(h0 none 0).1, fun c fp w vals ok hr => ?_⟩
    obtain ⟨v, _, rfl, hv, rfl⟩ := hr
    obtain ⟨A, cp, rfl⟩ := hx _ _ _ _ hv
    have hr2 : RVals c (gt []) (hp w) [.sc (.slice A 0 cp)] [.slice A 0 cp] := ⟨_, _, rfl, ⟨rfl, rfl, rfl⟩, rfl⟩
    refine ((h0 A cp).2 c fp w _ ok hr2).mono fun e w' hend => ?_
    obtain ⟨hs, v, c', fp', f', a1, a2, a3, a4, a5, a6⟩ := hend
    refine ⟨hs, v, c', fp', f', a1, a2, a3, a4, a5, ?_⟩
    cases A with
    | none => exact ret_nils 2 (by simpa using a6)
    | some a => simpa using a6
  unfold cloneMv at e
  split at e
  · rename_i k xs
    split at e
    · rename_i ds hds
      split at e
      · rename_i hk
        obtain ⟨rfl, hl⟩ := hk
        simp only [Option.some.injEq, Prod.mk.injEq] at e
        obtain ⟨rfl, rfl⟩ := e
        obtain rfl := unMs_eq hds
        cases ds with
        | nil =>
          refine hz _ fun c S h v hv => ?_
          obtain ⟨_, _, _, A, cp, hv, _⟩ := hv
          exact ⟨A, cp, (List.cons.inj hv).1⟩
        | cons d ds => exact h1 d ds hl
      · cases e
    · cases e
  · simp only [Option.some.injEq, Prod.mk.injEq] at e
    obtain ⟨rfl, rfl⟩ := e
    refine hz _ fun c S h v hv => ?_
    obtain ⟨_, A, hv⟩ := hv
    exact ⟨A, 0, (List.cons.inj hv).1⟩
  · cases e
end Go.Am
end
section
/- The library's sort at this program, as the kit's tool lays it. -/
namespace Go.Proofs
open Go.Shelf
def Try.sortMv_ren : Go.Shelf.Ren := ⟨fun | 6 => 96 | 15 => 112 | 14 => 111 | 28 => 133 | 29 => 134 | 20 => 125 | 21 => 126 | 22 => 127 | 23 => 128 | 24 => 129 | 25 => 130 | 26 => 131 | 27 => 132 | 46 => 146 | 47 => 147 | 48 => 148 | 49 => 149 | 50 => 150 | 57 => 154 | n => n, fun | 22 => 45 | 24 => 49 | 25 => 97 | 3 => 3 | 39 => 120 | 0 => 0 | 53 => 142 | 55 => 144 | 4 => 4 | 46 => 136 | 45 => 135 | 50 => 46 | 5 => 5 | 9 => 9 | 66 => 153 | 70 => 157 | 76 => 162 | 77 => 163 | n => n, fun | n => n⟩
theorem Try.sortMv : Go.Proofs.SlLaysF0.n6 Try.prog Try.sortMv_ren := {
  mixed := by kernel_rfl
  f6 := ⟨Try.f96.name, by decide, Try.func96.trans (congrArg some (by kernel_rfl))⟩
  f14 := ⟨Try.f111.name, by decide, Try.func111.trans (congrArg some (by kernel_rfl))⟩
  f15 := Try.func112.trans (congrArg some (by kernel_rfl))
  f20 := ⟨Try.f125.name, by decide, Try.func125.trans (congrArg some (by kernel_rfl))⟩
  f21 := ⟨Try.f126.name, by decide, Try.func126.trans (congrArg some (by kernel_rfl))⟩
  f22 := ⟨Try.f127.name, by decide, Try.func127.trans (congrArg some (by kernel_rfl))⟩
  f23 := ⟨Try.f128.name, by decide, Try.func128.trans (congrArg some (by kernel_rfl))⟩
  f24 := ⟨Try.f129.name, by decide, Try.func129.trans (congrArg some (by kernel_rfl))⟩
  f25 := ⟨Try.f130.name, by decide, Try.func130.trans (congrArg some (by kernel_rfl))⟩
  f26 := ⟨Try.f131.name, by decide, Try.func131.trans (congrArg some (by kernel_rfl))⟩
  f27 := ⟨Try.f132.name, by decide, Try.func132.trans (congrArg some (by kernel_rfl))⟩
  f28 := Try.func133.trans (congrArg some (by kernel_rfl))
  f29 := Try.func134.trans (congrArg some (by kernel_rfl))
  f46 := ⟨Try.f146.name, by decide, Try.func146.trans (congrArg some (by kernel_rfl))⟩
  f47 := Try.func147.trans (congrArg some (by kernel_rfl))
  f48 := Try.func148.trans (congrArg some (by kernel_rfl))
  f49 := ⟨Try.f149.name, by decide, Try.func149.trans (congrArg some (by kernel_rfl))⟩
  f50 := ⟨Try.f150.name, by decide, Try.func150.trans (congrArg some (by kernel_rfl))⟩
  f57 := ⟨Try.f154.name, by decide, Try.func154.trans (congrArg some (by kernel_rfl))⟩
  t0 := Try.underlying0
  a0 := Try.isAgg0
  z0 := Try.sizeOf0
  v0 := Try.zeroValue0
  t3 := Try.underlying3
  a3 := Try.isAgg3
  z3 := Try.sizeOf3
  v3 := Try.zeroValue3
  t4 := Try.underlying4
  a4 := Try.isAgg4
  z4 := Try.sizeOf4
  v4 := Try.zeroValue4
  t5 := Try.underlying5
  a5 := Try.isAgg5
  z5 := Try.sizeOf5
  v5 := Try.zeroValue5
  t9 := Try.underlying9
  a9 := Try.isAgg9
  z9 := Try.sizeOf9
  v9 := Try.zeroValue9
  t22 := Try.underlying45
  a22 := Try.isAgg45
  z22 := Try.sizeOf45
  v22 := Try.zeroValue45
  t25 := Try.underlying97
  a25 := Try.isAgg97
  z25 := Try.sizeOf97
  v25 := Try.zeroValue97
  t39 := Try.underlying120
  a39 := Try.isAgg120
  z39 := Try.sizeOf120
  v39 := Try.zeroValue120
  t45 := Try.underlying135
  a45 := Try.isAgg135
  z45 := Try.sizeOf135
  v45 := Try.zeroValue135
  t46 := Try.underlying136
  a46 := Try.isAgg136
  z46 := Try.sizeOf136
  v46 := Try.zeroValue136
  t50 := Try.underlying46
  a50 := Try.isAgg46
  z50 := Try.sizeOf46
  v50 := Try.zeroValue46
  t53 := Try.underlying142
  a53 := Try.isAgg142
  z53 := Try.sizeOf142
  v53 := Try.zeroValue142
  t55 := Try.underlying144
  a55 := Try.isAgg144
  z55 := Try.sizeOf144
  v55 := Try.zeroValue144
  t66 := Try.underlying153
  a66 := Try.isAgg153
  z66 := Try.sizeOf153
  v66 := Try.zeroValue153
  t70 := Try.underlying157
  a70 := Try.isAgg157
  z70 := Try.sizeOf157
  v70 := Try.zeroValue157
  t76 := Try.underlying162
  a76 := Try.isAgg162
  z76 := Try.sizeOf162
  v76 := Try.zeroValue162
  t77 := Try.underlying163
  a77 := Try.isAgg163
  z77 := Try.sizeOf163
  v77 := Try.zeroValue163 }
end Go.Proofs
end
section
/- slices.Sort at numbers, by the library's contract. -/
set_option linter.unusedSimpArgs false
set_option linter.unusedVariables false
namespace Go.Am
open Go.RowKit Go.Shelf Go.Lib Go.Sort Go.Proofs
def unN : PV → Option Int
  | .sc (.int .i64 a) => some a
  | _ => none
def unNs : List PV → Option (List Int)
  | [] => some []
  | x :: xs => match unN x, unNs xs with | some a, some r => some (a :: r) | _, _ => none
theorem unN_eq {x : PV} {a : Int} (h : unN x = some a) : x = .i a := by
  unfold unN at h
  split at h
  · simp only [Option.some.injEq] at h; subst h; rfl
  · cases h
theorem unNs_eq : ∀ {xs : List PV} {ds : List Int}, unNs xs = some ds → xs = ds.map PV.i
  | [], _, h => by simp only [unNs, Option.some.injEq] at h; subst h; rfl
  | x :: xs, _, h => by
    simp only [unNs] at h
    split at h
    · rename_i a r h1 h2
      simp only [Option.some.injEq] at h
      subst h
      rw [List.map_cons, ← unN_eq h1, ← unNs_eq h2]
    · cases h
@[simp] theorem unN_i (a : Int) : unN (.i a) = some a := rfl
@[simp] theorem unNs_map : ∀ ds : List Int, unNs (ds.map PV.i) = some ds
  | [] => rfl
  | a :: ds => by simp [unNs, unNs_map ds]
/-- Numbers in order. -/
def sortL (ds : List Int) : List Int := ds.mergeSort fun x y => decide (x ≤ y)
/-- What a sort of numbers does. -/
def sortI : List PV → Stack → Option (PV × Stack)
  | [.nils], o => some (.tup [], o)
  | [.own id n], o => if n < 4611686018427387904 then match getS o id with
      | some (.row k xs) => if k = 1 ∧ n = xs.length then match unNs xs with
          | some ds => some (.tup [], setS o id (.row 1 ((sortL ds).map PV.i)))
          | none => none
        else none
      | _ => none
    else none
  | _, _ => none
theorem Rs_i {c : Ctx} {S : Sto} {h : Hp} : ∀ {ds : List Int} {vs : List Value} {f : List Nat}, Rs c S h (ds.map PV.i) vs f ↔ vs = ds.map (Value.int .i64) ∧ f = []
  | [], vs, f => Iff.rfl
  | a :: ds, vs, f => by
    constructor
    · rintro ⟨v1, v2, f1, f2, rfl, rfl, r1, r2⟩
      obtain ⟨rfl, rfl⟩ := Rs_i.1 r2
      obtain ⟨rfl, rfl, _⟩ := r1
      exact ⟨rfl, rfl⟩
    · rintro ⟨rfl, rfl⟩
      exact ⟨[.int .i64 a], ds.map (Value.int .i64), [], [], rfl, rfl, ⟨rfl, rfl, rfl⟩, Rs_i.2 ⟨rfl, rfl⟩⟩
section
variable {P : Program}
theorem sortI_good {ρ : Ren} (L : Lays.n189 P ρ) (hgo : isGo P (ρ.f 189)) {args : List PV} {o o' : Stack} {r : PV} (e : sortI args o = some (r, o')) : Good P (ρ.f 189) args o r o' := by
  refine ⟨hgo, fun c fp w vals ok hr => ?_⟩
  unfold sortI at e
  split at e
  · -- nil
    simp only [Option.some.injEq, Prod.mk.injEq] at e
    obtain ⟨rfl, rfl⟩ := e
    obtain ⟨v, _, rfl, ⟨_, A, hv⟩, rfl⟩ := hr
    have hv : v = .slice A 0 0 := by simpa using hv
    subst hv
    refine (Any.slices_Sort_int_none L A 0 w).mono fun e w' hend => ?_
    obtain ⟨rfl, rfl⟩ := hend
    exact ⟨⟨rfl, fun id ob h => ⟨ob, h⟩⟩, _, c, fp, [], rfl, Grew.refl _, ok, Adv.refl _ _, Free.nil, [], rfl, rfl, rfl⟩
  · -- a row
    rename_i id n
    split at e
    · rename_i hn
      split at e
      · rename_i k xs hs
        split at e
        · rename_i hk
          obtain ⟨rfl, rfl⟩ := hk
          split at e
          · rename_i ds hds
            simp only [Option.some.injEq, Prod.mk.injEq] at e
            obtain ⟨rfl, rfl⟩ := e
            obtain rfl := unNs_eq hds
            rw [← gt_getS] at hs
            have hid : id.1 < o.length := gt_lv o id _ hs
            obtain ⟨v, _, rfl, hv, rfl⟩ := hr
            obtain ⟨_, v', ev, _, hv⟩ := (show R c (gt o) (hp w) (.own id (ds.map PV.i).length) [v] [] from hv)
            have : v = v' := by simpa using ev
            subst this
            simp only [OwnOK, hs] at hv
            have hv := hv.2 trivial
            subst hv
            simp only [List.length_map] at hn ⊢
            obtain ⟨htr, hkr, ro⟩ := ok.ob id _ hs
            generalize hsd : sortL ds = ds'
            have hsl : ds'.length = ds.length := by rw [← hsd]; exact List.length_mergeSort _
            rcases ro with ⟨hx, hcap, hfp⟩ | ⟨fq, hb, ⟨cur, et, wsr, g1, g2, g3, g4, g5, g6⟩, hfp⟩
            · have hd0 : ds = [] := by simpa using hx
              subst hd0
              have : ds' = [] := List.length_eq_zero_iff.1 hsl
              subst this
              have hsame : setS o id (.row 1 ([].map PV.i)) = o := setS_same o id _ (by rw [← gt_getS]; exact hs)
              rw [hsame]
              refine (Any.slices_Sort_int_none L _ _ w).mono fun e w' hend => ?_
              obtain ⟨rfl, rfl⟩ := hend
              exact ⟨⟨rfl, fun id ob h => ⟨ob, h⟩⟩, _, c, fp, [], rfl, Grew.refl _, ok, Adv.refl _ _, Free.nil, [], rfl, rfl, rfl⟩
            · obtain ⟨rfl, rfl⟩ := Rs_i.1 g5
              simp only [List.length_map, Nat.mul_one] at g2 g6
              have hlt := hp_lt g1
              have hcurat : ∀ j, j < ds.length → cur[j]? = some (Value.int .i64 ds.toArray[j]!) := fun j hj => by
                have := congrArg (fun l => l[j]?) g6
                simp only [List.getElem?_take, if_pos hj, List.getElem?_map] at this
                rw [← Array.getElem?_toList, this]
                simp [hj]
              have hH : Holds (Value.int .i64) w (c.L id).blk 0 ds.toArray := by
                intro j hj
                simp only [List.size_toArray] at hj
                refine ⟨?_, ?_⟩
                · rw [Nat.zero_add, cell_of_block g1, hcurat j hj]
                · have : w.heap[(c.L id).blk]? = some (.cells cur et (0, 0)) := g1
                  simp [World.frozen?, this]
              have hcon := Any.slices_Sort_int L (c.L id).blk 0 (c.L id).cap ds w hH hlt (by simpa using hn)
              rw [hb]
              have hargs : ([Value.slice (some ⟨(c.L id).blk, 0, none⟩) ds.length (c.L id).cap] : List Value).toArray = #[Value.slice (some ⟨(c.L id).blk, 0, none⟩) ds.length (c.L id).cap] := rfl
              rw [hargs]
              refine hcon.mono fun e w' hend => ?_
              obtain ⟨rfl, m, os, rfl⟩ := hend
              have hsd' : (ds.mergeSort fun x y => decide (x ≤ y)) = ds' := hsd
              simp only [hsd']
              -- the new world
              have hheap : ∀ b, b < w.heap.size → hp (grow (putRow (Value.int .i64) (Sort.ahead w m) (c.L id).blk 0 ds'.toArray) os) b = if (c.L id).blk = b then (hp w b).map (onCells (Go.Sort.putCells (Value.int .i64) 0 ds'.toArray)) else hp w b := by
                intro b hb'
                simp only [putRow, mapBlock, grow, hp, Sort.ahead]
                rw [Array.getElem?_append_left (by simpa using hb'), Array.getElem?_modify]
              have hother : ∀ b, b < w.heap.size → b ≠ (c.L id).blk → hp (grow (putRow (Value.int .i64) (Sort.ahead w m) (c.L id).blk 0 ds'.toArray) os) b = hp w b := fun b hb' hne => by rw [hheap b hb', if_neg (Ne.symm hne)]
              have hblk := hheap _ hlt
              rw [if_pos rfl, g1] at hblk
              simp only [Option.map_some, onCells] at hblk
              generalize hcur' : Go.Sort.putCells (Value.int .i64) 0 ds'.toArray cur = cur' at hblk
              have hsz' : cur'.size = cur.size := by rw [← hcur']; simp [Go.Sort.putCells]
              have htake : cur'.toList.take ds'.length = ds'.map (Value.int .i64) := by
                apply List.ext_getElem?
                intro j
                rw [List.getElem?_take]
                by_cases hj : j < ds'.length
                · rw [if_pos hj, ← hcur']
                  have hjc : j < cur.size := by omega
                  simp only [Go.Sort.putCells, Array.getElem?_toList, Array.getElem?_mapIdx, Array.getElem?_eq_getElem hjc, Option.map_some, Nat.zero_le, true_and, Nat.zero_add, List.size_toArray, hj, if_true, Nat.sub_zero]
                  simp [hj]
                · rw [if_neg hj, List.getElem?_eq_none (by simp; omega)]
              have hfz : ∀ a : Addr, a.block < w.heap.size → (grow (putRow (Value.int .i64) (Sort.ahead w m) (c.L id).blk 0 ds'.toArray) os).frozen? a = w.frozen? a := by
                intro a ha
                have h1 := hheap a.block ha
                simp only [hp] at h1
                by_cases hab : (c.L id).blk = a.block
                · have h2 : w.heap[a.block]? = some (.cells cur et (0, 0)) := by rw [← hab]; exact g1
                  rw [if_pos hab, h2] at h1
                  simp only [Option.map_some, onCells] at h1
                  simp only [World.frozen?, h1, h2]
                · rw [if_neg hab] at h1
                  simp only [World.frozen?, h1]
              have ha : Adv c (setL c id (c.L id)) (gt o) (upd (gt o) id (.row 1 (ds'.map PV.i))) := Adv.row hs (by simp [hsl]) (fun _ => rfl)
              have hfq : (c.L id).blk ∈ fp id := by rw [hfp]; exact List.mem_cons_self
              have hst : StOK (setL c id (c.L id)) (upd (gt o) id (.row 1 (ds'.map PV.i))) (hp (grow (putRow (Value.int .i64) (Sort.ahead w m) (c.L id).blk 0 ds'.toArray) os)) (setF fp id [(c.L id).blk]) := by
                refine ok.reset hs ha ?_ (by simp) (fun b hb' => ?_) (fun b hb' hb2 => hother b hb' (fun e => hb2 (by rw [e]; exact hfq)))
                · refine ⟨?_, ?_, .inr ⟨[], by simpa [setL] using hb, ⟨cur', et, ds'.map (Value.int .i64), by simpa [setL] using hblk, by simp only [setL, if_true, List.length_map]; omega, by simpa [setL] using g3, by simp only [setL, if_true, hsz', g4], Rs_i.2 ⟨rfl, rfl⟩, by rw [List.length_map, Nat.mul_one]; exact htake⟩, by simp [setL]⟩⟩
                  · clear hsd hsd' hblk hcur' hsz' htake hfz hheap hother ha
                    have : ∀ l : List Int, trees (l.map PV.i) = true := fun l => by
                      induction l with
                      | nil => rfl
                      | cons b l ih => simp [trees, tree, ih]
                    exact this _
                  · intro x hx
                    obtain ⟨a, _, rfl⟩ := List.mem_map.1 hx
                    exact ⟨rfl, rfl⟩
                · simp only [List.mem_singleton] at hb'
                  subst hb'
                  exact ⟨ok.nF id _ hs _ hfq, fun id' ob' hne' hs' => ok.dj id id' _ ob' hs hs' (Ne.symm hne') _ hfq⟩
              refine ⟨shape_setS hs, .tuple #[], setL c id (c.L id), setF fp id [(c.L id).blk], [], rfl, ⟨rfl, rfl, rfl, ?_, hfz, ?_⟩, ?_, ?_, Free.nil, [], rfl, rfl, rfl⟩
              · simp [grow, putRow, mapBlock, Sort.ahead]
              · simp [grow, putRow, mapBlock, Sort.ahead]
              · rw [gt_setS hid]; exact hst
              · rw [gt_setS hid]; exact ha
          · cases e
        · cases e
      · cases e
    · cases e
  · cases e
end
end Go.Am
end
section
/- The library's sort at this program, as the kit's tool lays it. -/
namespace Go.Proofs
open Go.Shelf
def Try.sortI_ren : Go.Shelf.Ren := ⟨fun | 189 => 137 | 125 => 112 | 257 => 152 | 128 => 133 | 129 => 134 | 294 => 155 | 295 => 156 | 296 => 157 | 297 => 158 | 298 => 159 | 299 => 160 | 216 => 161 | 300 => 162 | 301 => 163 | 328 => 164 | 329 => 147 | 330 => 148 | 331 => 165 | 332 => 166 | 215 => 116 | 343 => 167 | n => n, fun | 28 => 27 | 3 => 3 | 46 => 120 | 0 => 0 | 51 => 142 | 53 => 144 | 4 => 4 | 183 => 136 | 182 => 135 | 131 => 46 | 5 => 5 | 9 => 9 | 218 => 153 | 222 => 157 | 228 => 162 | 229 => 163 | n => n, fun | n => n⟩
theorem Try.sortI : Go.Proofs.Lays.n189 Try.prog Try.sortI_ren := {
  mixed := by kernel_rfl
  f125 := Try.func112.trans (congrArg some (by kernel_rfl))
  f128 := Try.func133.trans (congrArg some (by kernel_rfl))
  f129 := Try.func134.trans (congrArg some (by kernel_rfl))
  f189 := Try.func137.trans (congrArg some (by kernel_rfl))
  f215 := Try.func116.trans (congrArg some (by kernel_rfl))
  f216 := Try.func161.trans (congrArg some (by kernel_rfl))
  f257 := Try.func152.trans (congrArg some (by kernel_rfl))
  f294 := Try.func155.trans (congrArg some (by kernel_rfl))
  f295 := Try.func156.trans (congrArg some (by kernel_rfl))
  f296 := Try.func157.trans (congrArg some (by kernel_rfl))
  f297 := Try.func158.trans (congrArg some (by kernel_rfl))
  f298 := Try.func159.trans (congrArg some (by kernel_rfl))
  f299 := Try.func160.trans (congrArg some (by kernel_rfl))
  f300 := Try.func162.trans (congrArg some (by kernel_rfl))
  f301 := Try.func163.trans (congrArg some (by kernel_rfl))
  f328 := Try.func164.trans (congrArg some (by kernel_rfl))
  f329 := Try.func147.trans (congrArg some (by kernel_rfl))
  f330 := Try.func148.trans (congrArg some (by kernel_rfl))
  f331 := Try.func165.trans (congrArg some (by kernel_rfl))
  f332 := Try.func166.trans (congrArg some (by kernel_rfl))
  f343 := Try.func167.trans (congrArg some (by kernel_rfl))
  t0 := Try.underlying0
  a0 := Try.isAgg0
  z0 := Try.sizeOf0
  v0 := Try.zeroValue0
  t3 := Try.underlying3
  a3 := Try.isAgg3
  z3 := Try.sizeOf3
  v3 := Try.zeroValue3
  t4 := Try.underlying4
  a4 := Try.isAgg4
  z4 := Try.sizeOf4
  v4 := Try.zeroValue4
  t5 := Try.underlying5
  a5 := Try.isAgg5
  z5 := Try.sizeOf5
  v5 := Try.zeroValue5
  t9 := Try.underlying9
  a9 := Try.isAgg9
  z9 := Try.sizeOf9
  v9 := Try.zeroValue9
  t28 := Try.underlying27
  a28 := Try.isAgg27
  z28 := Try.sizeOf27
  v28 := Try.zeroValue27
  t46 := Try.underlying120
  a46 := Try.isAgg120
  z46 := Try.sizeOf120
  v46 := Try.zeroValue120
  t51 := Try.underlying142
  a51 := Try.isAgg142
  z51 := Try.sizeOf142
  v51 := Try.zeroValue142
  t53 := Try.underlying144
  a53 := Try.isAgg144
  z53 := Try.sizeOf144
  v53 := Try.zeroValue144
  t131 := Try.underlying46
  a131 := Try.isAgg46
  z131 := Try.sizeOf46
  v131 := Try.zeroValue46
  t182 := Try.underlying135
  a182 := Try.isAgg135
  z182 := Try.sizeOf135
  v182 := Try.zeroValue135
  t183 := Try.underlying136
  a183 := Try.isAgg136
  z183 := Try.sizeOf136
  v183 := Try.zeroValue136
  t218 := Try.underlying153
  a218 := Try.isAgg153
  z218 := Try.sizeOf153
  v218 := Try.zeroValue153
  t222 := Try.underlying157
  a222 := Try.isAgg157
  z222 := Try.sizeOf157
  v222 := Try.zeroValue157
  t228 := Try.underlying162
  a228 := Try.isAgg162
  z228 := Try.sizeOf162
  v228 := Try.zeroValue162
  t229 := Try.underlying163
  a229 := Try.isAgg163
  z229 := Try.sizeOf163
  v229 := Try.zeroValue163 }
end Go.Proofs
end
section
set_option maxRecDepth 100000
set_option linter.unusedSimpArgs false
set_option linter.unusedVariables false
namespace Go.Am
open Go.Proofs Go.Sort Go.Shelf
def cmpI (a b : Int) : Int := if a < b then -1 else if b < a then 1 else 0
def cmpM (x y : Int × Int) : Int := if cmpI x.1 y.1 ≠ 0 then cmpI x.1 y.1 else cmpI x.2 y.2
theorem eqNaN0 (a : Int) : callI G0 116 [.i a] [] = some (.b false, []) := by
  rw [callI_eq]
  simp [body1_eq _ _ (gp0 116) g116, c116, a116]
theorem eqCmp0 (a b : Int) : callI G0 103 [.i a, .i b] [] = some (.i (cmpI a b), []) := by
  have h1 := eqNaN0 a
  have h2 := eqNaN0 b
  rw [callI_eq]
  unfold cmpI
  by_cases c1 : a < b
  · simp [body1_eq _ _ (gp0 103) g103, c103, a103, h1, h2, c1]
  · by_cases c2 : b < a
    · simp [body1_eq _ _ (gp0 103) g103, c103, a103, h1, h2, c1, c2]
    · simp [body1_eq _ _ (gp0 103) g103, c103, a103, h1, h2, c1, c2]
theorem eqByMove0 (x y : Int × Int) : callI G0 89 [mvP x, mvP y] [] = some (.i (cmpM x y), []) := by
  have h1 := eqCmp0 x.1 y.1
  have h2 := eqCmp0 x.2 y.2
  rw [callI_eq]
  unfold cmpM
  by_cases c1 : cmpI x.1 y.1 = 0
  · simp [body1_eq _ _ (gp0 89) g89, c89, a89, mvP, h1, h2, c1]
  · simp [body1_eq _ _ (gp0 89) g89, c89, a89, mvP, h1, h2, c1]
/-- The order of moves. -/
def ltM (x y : Int × Int) : Bool := ltOf cmpM x y
theorem ltM_iff (x y : Int × Int) : ltM x y = true ↔ x.1 < y.1 ∨ x.1 = y.1 ∧ x.2 < y.2 := by
  unfold ltM ltOf cmpM cmpI
  simp only [decide_eq_true_eq]
  repeat' split
  all_goals (constructor <;> intro h <;> omega)
theorem ltM_false (x y : Int × Int) : ltM x y = false ↔ y.1 < x.1 ∨ y.1 = x.1 ∧ y.2 ≤ x.2 := by
  have := ltM_iff x y
  cases h : ltM x y with
  | true =>
    have := this.1 h
    constructor
    · intro e; cases e
    · intro e; omega
  | false =>
    rw [h] at this
    simp only [Bool.false_eq_true, false_iff] at this
    constructor
    · intro _; omega
    · intro _; rfl
theorem swoM : SWO (ltOf cmpM) where
  irrefl x := (ltM_false x x).2 (by omega)
  trans x y z h1 h2 := (ltM_iff x z).2 (by have := (ltM_iff x y).1 h1; have := (ltM_iff y z).1 h2; omega)
  ntrans x y z h1 h2 := (ltM_false x z).2 (by have := (ltM_false x y).1 h1; have := (ltM_false y z).1 h2; omega)
theorem totM (x y : Int × Int) (h1 : (ltOf cmpM) x y = false) (h2 : (ltOf cmpM) y x = false) : x = y := by
  have a := (ltM_false x y).1 h1
  have b := (ltM_false y x).1 h2
  exact Prod.ext (by omega) (by omega)
/-! slices.Clone at moves: an empty slice as it may be. -/
theorem eqClone0 (A : Option Addr) (cp : Nat) : callI G0 56 [.sc (.slice A 0 cp)] [] = some (if A.isNone = true then .nils else .sl true 2 [], []) := by
  rw [callI_eq]
  cases A with
  | none => simp [body1_eq _ _ (gp0 56) g56, c56, a56]
  | some a => simp [body1_eq _ _ (gp0 56) g56, c56, a56]
theorem eqClone1 (d : Int × Int) (ds : List (Int × Int)) (h : (d :: ds).length ≤ 4294967296) : callI G0 56 [.sl false 2 ((d :: ds).map mvP)] [] = some (.sl true 2 ((d :: ds).map mvP), []) := by
  rw [callI_eq]
  have h2 : ds.length + 1 ≤ 4294967296 := by simpa using h
  simp [body1_eq _ _ (gp0 56) g56, c56, a56, h2]
def prims : Nat → Option (List PV → Stack → Option (PV × Stack))
  | 96 => some (sortP 89 (ltOf cmpM))
  | 56 => some cloneMv
  | 137 => some sortI
  | _ => none
def G : Prog := ⟨codes, prims⟩
theorem gp (n : Nat) (h : prims n = none := by rfl) : G.prim n = none := h
theorem progOK : ProgOK Try.prog G := by
  refine ⟨progOK0.1, fun f af _ h => progOK0.code f af rfl h, fun f p h => ?_⟩
  simp only [G] at h
  unfold prims at h
  split at h
  all_goals first
    | (simp only [Option.some.injEq] at h; subst h; intro args o r o' e; exact sortP_good Try.sortMv Try.isAgg49 Try.sizeOf49 ⟨Try.f96, Try.func96, by kernel_rfl, by decide +kernel⟩ swoM totM (fun x y => sound progOK0 (eqByMove0 x y)) e)
    | (simp only [Option.some.injEq] at h; subst h; intro args o r o' e; exact cloneMv_good (fun A cp => sound progOK0 (eqClone0 A cp)) (fun d ds hl => sound progOK0 (eqClone1 d ds hl)) e)
    | (simp only [Option.some.injEq] at h; subst h; intro args o r o' e; exact sortI_good Try.sortI ⟨Try.f137, Try.func137, by kernel_rfl, by decide +kernel⟩ e)
    | (cases h; done)
/-- The sort's own equation. -/
theorem callI_prim {G : Prog} {f : Nat} {p : List PV → Stack → Option (PV × Stack)} (h : G.prim f = some p) (args : List PV) (o : Stack) : callI G f args o = p args o := by
  rw [callI_eq]
  simp only [body1, h]
theorem eqSortM (args : List PV) (o : Stack) : callI G 96 args o = sortP 89 ltM args o := callI_prim rfl args o
theorem eqCloneM (args : List PV) (o : Stack) : callI G 56 args o = cloneMv args o := callI_prim rfl args o
end Go.Am
end
section
set_option maxRecDepth 10000
set_option linter.unusedSimpArgs false
set_option linter.unusedVariables false
namespace Go.Am
open Go.Proofs
abbrev Mv := Int × Int
abbrev Gr := List (List Mv)
theorem wr {n : Int} (h : -9223372036854775808 ≤ n ∧ n ≤ 9223372036854775807) : IntKind.i64.wrap n = n := by
  simp only [IntKind.wrap, IntKind.bits, IntKind.signed]
  simp
  omega
/-! #### lists of moves as the machine holds them -/
def encL (nl u : Bool) (l : List Mv) : PV := if (nl && l.isEmpty) = true then .nils else .sl u 2 (l.map mvP)
def encGs (nl u : Bool) (g : Gr) : List PV := g.map (encL nl u)
def encM' (nl u : Bool) (g : Gr) : PV := if (nl && g.isEmpty) = true then .nils else .sl u 1 (encGs nl u g)
abbrev encG (nl u : Bool) (g : Gr) : PV := .agg [encM' nl u g]
@[simp] theorem encL_f (u : Bool) (l : List Mv) : encL false u l = .sl u 2 (l.map mvP) := rfl
@[simp] theorem encL_n (u : Bool) : encL true u [] = .nils := rfl
@[simp] theorem encL_c (nl u : Bool) (x : Mv) (l : List Mv) : encL nl u (x :: l) = .sl u 2 (mvP x :: l.map mvP) := by simp [encL]
theorem encL_ne {nl u : Bool} {l : List Mv} (h : l ≠ []) : encL nl u l = .sl u 2 (l.map mvP) := by
  cases l with
  | nil => exact absurd rfl h
  | cons x l => simp
@[simp] theorem encM_f (u : Bool) (g : Gr) : encM' false u g = .sl u 1 (encGs false u g) := rfl
@[simp] theorem encM_n (u : Bool) : encM' true u [] = .nils := rfl
@[simp] theorem encM_c (nl u : Bool) (x : List Mv) (g : Gr) : encM' nl u (x :: g) = .sl u 1 (encL nl u x :: encGs nl u g) := by simp [encM', encGs]
@[simp] theorem encGs_len (nl u : Bool) (g : Gr) : (encGs nl u g).length = g.length := by simp [encGs]
@[simp] theorem fal_mvP (x : Mv) : fal (mvP x) = mvP x := rfl
theorem fals_mvP : ∀ l : List Mv, fals (l.map mvP) = l.map mvP
  | [] => rfl
  | x :: l => by
    have := fals_mvP l
    simp [fals, this]
theorem fal_encL (nl u : Bool) (l : List Mv) : fal (encL nl u l) = encL nl false l := by
  unfold encL
  split
  · rfl
  · simp [fal, fals_mvP]
theorem fals_encGs (nl u : Bool) : ∀ g : Gr, fals (encGs nl u g) = encGs nl false g
  | [] => rfl
  | l :: g => by
    have := fals_encGs nl u g
    simp only [encGs, List.map_cons, fals, fal_encL] at this ⊢
    rw [this]
theorem fal_encM (nl u : Bool) (g : Gr) : fal (encM' nl u g) = encM' nl false g := by
  unfold encM'
  split
  · rfl
  · simp [fal, fals_encGs]
theorem mv_at (a : List Mv) (x : Mv) (b : List Mv) : nth ((a ++ x :: b).map mvP) a.length = some (mvP x) := by
  unfold nth; simp
theorem gr_at (nl u : Bool) (a : Gr) (x : List Mv) (b : Gr) : nth (encGs nl u (a ++ x :: b)) a.length = some (encL nl u x) := by
  unfold nth encGs; simp
theorem encL_cells (nl u : Bool) (l : List Mv) : (encL nl u l).cells = [encL nl u l] := by unfold encL; split <;> rfl
@[simp] theorem known_encL (f : Nat → Bool) (n : Nat) (nl u : Bool) (l : List Mv) : known f n (encL nl u l) = true := by unfold encL; split <;> rfl
@[simp] theorem cellP_encL (nl u : Bool) (l : List Mv) : cellP (encL nl u l) = true := by unfold encL; split <;> rfl
@[simp] theorem cells_encL (nl u : Bool) (l : List Mv) : (encL nl u l).cells = [encL nl u l] := encL_cells nl u l
@[simp] theorem noRef_encL (nl u : Bool) (l : List Mv) : noRef (encL nl u l) = true := by unfold encL; split <;> rfl
@[simp] theorem plain_encL (nl : Bool) (l : List Mv) : plain (encL nl false l) = true := by unfold encL; split <;> rfl
@[simp] theorem snapE_encL (g : Id → Option OB) (nl u : Bool) (l : List Mv) : snapE g (encL nl u l) = some (encL nl u l) := by unfold encL; split <;> rfl
@[simp] theorem rowIdE_encL (g : Id → Option OB) (nl u : Bool) (l : List Mv) : rowIdE g (encL nl u l) = [] := by unfold encL; split <;> rfl
@[simp] theorem snap_encL (g : Id → Option OB) (nl u : Bool) (l : List Mv) : snap g (encL nl u l) = some (encL nl u l) := by unfold encL; split <;> rfl
@[simp] theorem rowId_encL (g : Id → Option OB) (nl u : Bool) (l : List Mv) : rowId g (encL nl u l) = [] := by unfold encL; split <;> rfl
@[simp] theorem len_encL (n d : Nat) (g : Id → Option OB) (nl u : Bool) (l : List Mv) : core1 n d g .len [encL nl u l] = some (.i l.length, []) := by
  unfold encL
  split
  · rename_i hh
    have : l = [] := by simp at hh; exact hh.2
    subst this
    simp
  · simp
@[simp] theorem known_encM (f : Nat → Bool) (n : Nat) (nl u : Bool) (l : Gr) : known f n (encM' nl u l) = true := by unfold encM'; split <;> rfl
@[simp] theorem cellP_encM (nl u : Bool) (l : Gr) : cellP (encM' nl u l) = true := by unfold encM'; split <;> rfl
@[simp] theorem noRef_encM (nl u : Bool) (l : Gr) : noRef (encM' nl u l) = true := by unfold encM'; split <;> rfl
@[simp] theorem plain_encM (nl : Bool) (l : Gr) : plain (encM' nl false l) = true := by unfold encM'; split <;> rfl
@[simp] theorem snap_encM (g : Id → Option OB) (nl u : Bool) (l : Gr) : snap g (encM' nl u l) = some (encM' nl u l) := by unfold encM'; split <;> rfl
@[simp] theorem rowId_encM (g : Id → Option OB) (nl u : Bool) (l : Gr) : rowId g (encM' nl u l) = [] := by unfold encM'; split <;> rfl
@[simp] theorem snapE_encM (g : Id → Option OB) (nl u : Bool) (l : Gr) : snapE g (encM' nl u l) = some (encM' nl u l) := by unfold encM'; split <;> rfl
@[simp] theorem rowIdE_encM (g : Id → Option OB) (nl u : Bool) (l : Gr) : rowIdE g (encM' nl u l) = [] := by unfold encM'; split <;> rfl
@[simp] theorem len_encM (n d : Nat) (g : Id → Option OB) (nl u : Bool) (l : Gr) : core1 n d g .len [encM' nl u l] = some (.i l.length, []) := by
  unfold encM'
  split
  · rename_i hh
    have : l = [] := by simp at hh; exact hh.2
    subst this
    simp
  · simp
theorem encM_cases (nl u : Bool) (g : Gr) : encM' nl u g = .nils ∨ ∃ xs, encM' nl u g = .sl u 1 xs := by
  unfold encM'
  split
  · exact .inl rfl
  · exact .inr ⟨_, rfl⟩
/-! #### the size -/
/-- Lists of no more elements than memory holds. -/
def FitG (g : Gr) : Prop := g.length ≤ 9223372036854775807 ∧ ∀ l ∈ g, l.length ≤ 9223372036854775807
/-- Graphs that can be made. -/
def SmallG (g : Gr) : Prop := g.length ≤ 1048576 ∧ ∀ l ∈ g, l.length ≤ 1048576
/-! #### copies -/
end Go.Am
end
section
/- A function of a machine, as a primitive of another one that hands it what its arguments may also be read as. -/
set_option linter.unusedSimpArgs false
set_option linter.unusedVariables false
namespace Go.Am
open Go.RowKit
/-- What a value may also be read as. -/
def Reads (t : PV → PV) : Prop := ∀ {c : Ctx} {S : Sto} {h : Hp} {x : PV} {v : Value}, RVal c S h x v → RVal c S h (t x) v
theorem Reads.all {t : PV → PV} (ht : Reads t) {c : Ctx} {S : Sto} {h : Hp} : ∀ {xs : List PV} {vs : List Value}, RVals c S h xs vs → RVals c S h (xs.map t) vs
  | [], vs, r => r
  | x :: xs, vs, r => by
    obtain ⟨v, ws, e, h1, h2⟩ := r
    exact ⟨v, ws, e, ht h1, ht.all h2⟩
/-- An aggregate of one nil slice. -/
def nil1 (k : Nat) : PV → PV
  | .agg [.nils] => .agg [.sl false k []]
  | x => x
theorem reads_nil1 (k : Nat) : Reads (nil1 k) := by
  intro c S h x v r
  unfold nil1
  split
  · have := RVal_weak k r
    simpa [weak, weaks] using this
  · exact r
noncomputable def viaP (G : Prog) (f : Nat) (t : PV → PV) (args : List PV) (o : Stack) : Option (PV × Stack) := callI G f (args.map t) o
theorem viaP_good {P : Program} {G : Prog} (ok : ProgOK P G) {f : Nat} {t : PV → PV} (ht : Reads t) {args : List PV} {o o' : Stack} {r : PV} (e : viaP G f t args o = some (r, o')) : Good P f args o r o' := by
  have hg := sound ok e
  exact ⟨hg.1, fun c fp w vals st hr => hg.2 c fp w vals st (ht.all hr)⟩
/-- What a call gives back is handed on as a row that stays as it is. -/
theorem Did.low {c : Ctx} {S S' : Sto} {w w' : World} {k : Nat} {xs : List PV} {e : Ending} (d : Did c S w S' (.sl true k xs) e w') : Did c S w S' (.sl false k (fals xs)) e w' := by
  obtain ⟨v, c', fp', f', e1, hw, ok, ha, hf, r⟩ := d
  have r : R c' S' (hp w') (.sl true k xs) [v] f' := r
  have ht : tree (.sl true k xs) = true := by simp only [R] at r; simp only [tree]; exact r.1
  have hF : ∀ b o, c'.F b = some o → (addF c' f' (hp w')).F b = some o := by
    intro b o h
    simp only [addF]
    split
    · rename_i hb
      exact (hf.2 b hb).1.no (.inl h)
    · exact h
  have ha2 : Adv c' (addF c' f' (hp w')) S' S' := ⟨hF, rfl, fun x o hx => ⟨o, hx, StepOB.rfl' rfl⟩⟩
  refine ⟨v, addF c' f' (hp w'), fp', [], e1, hw, ok.step ha2 (fun _ => False) ?_ (fun _ _ _ h => h.elim) ?_ ?_, ha.trans ha2, Free.nil, ?_⟩
  · intro id ob hs _
    refine ⟨hs, rfl, rfl, fun b hb => ⟨rfl, ?_, (ok.nF id ob hs b hb).2⟩⟩
    simp only [addF]
    rw [if_neg (fun hb' => (hf.2 b hb').2 id ob hs hb)]
    exact (ok.nF id ob hs b hb).1
  · intro b o h
    simp only [addF] at h
    split at h
    · rcases h with h | h
      · exact h
      · exact ok.okF b o (.inr h)
    · exact ok.okF b o h
  · intro b o h
    simp only [addF] at h ⊢
    split at h
    · rename_i hb
      exact (hf.2 b hb).1.2
    · exact ok.dis b o h
  · have := R.fal (c' := addF c' f' (hp w')) (S' := S') (h' := hp w') hF (.sl true k xs) [v] f' ht (fun b hb => by simp [addF, hb]) r
    exact this
def lowR : Option (PV × Stack) → Option (PV × Stack)
  | some (.sl true k xs, o) => some (.sl false k (fals xs), o)
  | r => r
/-- The same, with a row as result that stays as it is. -/
noncomputable def lowP (G : Prog) (f : Nat) (t : PV → PV) (args : List PV) (o : Stack) : Option (PV × Stack) := lowR (viaP G f t args o)
theorem lowP_good {P : Program} {G : Prog} (ok : ProgOK P G) {f : Nat} {t : PV → PV} (ht : Reads t) {args : List PV} {o o' : Stack} {r : PV} (e : lowP G f t args o = some (r, o')) : Good P f args o r o' := by
  unfold lowP lowR at e
  split at e
  · rename_i k xs o1 he
    simp only [Option.some.injEq, Prod.mk.injEq] at e
    obtain ⟨rfl, rfl⟩ := e
    have hg := viaP_good ok ht he
    refine ⟨hg.1, fun c fp w vals st hr => (hg.2 c fp w vals st hr).mono fun e w' h => ⟨h.1, h.2.low⟩⟩
  · exact viaP_good ok ht e
theorem callI_prim' {G : Prog} {f : Nat} {p : List PV → Stack → Option (PV × Stack)} (h : G.prim f = some p) (args : List PV) (o : Stack) : callI G f args o = p args o := by
  rw [callI_eq]
  simp only [body1, h]
end Go.Am
end
section
/- Results that are handed on as trees that stay as they are. -/
set_option linter.unusedSimpArgs false
set_option linter.unusedVariables false
namespace Go.Am
open Go.RowKit
theorem RX.fal {c c' : Ctx} {S S' : Sto} {h h' : Hp} (hF : ∀ b o, c.F b = some o → c'.F b = some o) {x : PV} {v : Value} {f : List Nat} (t : tree x = true) (hf : ∀ b ∈ f, c'.F b = h b) (r : RX c S h x v f) : RX c' S' h' (Am.fal x) v [] := by
  cases x with
  | bx cs => simp [tree] at t
  | undef => exact r.elim
  | agg cs =>
    obtain ⟨vs, e, r⟩ := r
    exact ⟨vs, e, R.fal hF (.agg cs) vs f t hf r⟩
  | sc u => exact R.fal (S := S) (S' := S') (h' := h') hF (.sc u) [v] f t hf r
  | nils => exact R.fal (S := S) (S' := S') (h' := h') hF .nils [v] f t hf r
  | sl u k xs => exact R.fal (S := S) (S' := S') (h' := h') hF (.sl u k xs) [v] f t hf r
  | own _ _ => simp [tree] at t
  | ref _ _ _ _ => simp [tree] at t
  | sub _ _ _ => simp [tree] at t
  | iref _ _ => simp [tree] at t
  | mp _ => simp [tree] at t
  | clo _ _ => simp [tree] at t
  | tup _ => simp [tree] at t
  | non => simp [tree] at t
theorem RXs.fals {c c' : Ctx} {S S' : Sto} {h h' : Hp} (hF : ∀ b o, c.F b = some o → c'.F b = some o) : ∀ {xs : List PV} {vs : List Value} {f : List Nat}, trees xs = true → (∀ b ∈ f, c'.F b = h b) → RXs c S h xs vs f → RXs c' S' h' (Am.fals xs) vs []
  | [], _, _, _, _, r => ⟨r.1, rfl⟩
  | x :: xs, vs, f, t, hf, ⟨v, ws, f1, f2, e1, e2, r1, r2⟩ => by
    simp only [trees, Bool.and_eq_true] at t
    refine ⟨v, ws, [], [], e1, rfl, RX.fal hF t.1 (fun b hb => hf b (by rw [e2]; exact List.mem_append_left _ hb)) r1, RXs.fals hF t.2 (fun b hb => hf b (by rw [e2]; exact List.mem_append_right _ hb)) r2⟩
/-- A result that may be read otherwise once what it leads to stays as it is. -/
theorem Did.lowG {c : Ctx} {S S' : Sto} {w w' : World} {x y : PV} {e : Ending} (hxy : ∀ (c1 c2 : Ctx) (S1 S2 : Sto) (h1 h2 : Hp) (v : Value) (f : List Nat), (∀ b o, c1.F b = some o → c2.F b = some o) → (∀ b ∈ f, c2.F b = h1 b) → Ret c1 S1 h1 x v f → Ret c2 S2 h2 y v [])
    (d : Did c S w S' x e w') : Did c S w S' y e w' := by
  obtain ⟨v, c', fp', f', e1, hw, ok, ha, hf, r⟩ := d
  have hF : ∀ b o, c'.F b = some o → (addF c' f' (hp w')).F b = some o := by
    intro b o h
    simp only [addF]
    split
    · rename_i hb
      exact (hf.2 b hb).1.no (.inl h)
    · exact h
  have ha2 : Adv c' (addF c' f' (hp w')) S' S' := ⟨hF, rfl, fun x o hx => ⟨o, hx, StepOB.rfl' rfl⟩⟩
  refine ⟨v, addF c' f' (hp w'), fp', [], e1, hw, ok.step ha2 (fun _ => False) ?_ (fun _ _ _ h => h.elim) ?_ ?_, ha.trans ha2, Free.nil, hxy c' _ S' S' (hp w') _ v f' hF (fun b hb => by simp [addF, hb]) r⟩
  · intro id ob hs _
    refine ⟨hs, rfl, rfl, fun b hb => ⟨rfl, ?_, (ok.nF id ob hs b hb).2⟩⟩
    simp only [addF]
    rw [if_neg (fun hb' => (hf.2 b hb').2 id ob hs hb)]
    exact (ok.nF id ob hs b hb).1
  · intro b o h
    simp only [addF] at h
    split at h
    · rcases h with h | h
      · exact h
      · exact ok.okF b o (.inr h)
    · exact ok.okF b o h
  · intro b o h
    simp only [addF] at h ⊢
    split at h
    · rename_i hb
      exact (hf.2 b hb).1.2
    · exact ok.dis b o h
def lowTR : Option (PV × Stack) → Option (PV × Stack)
  | some (.tup ps, o) => if trees ps = true then some (.tup (fals ps), o) else some (.tup ps, o)
  | r => r
/-- A function of a machine as a primitive of another one; the values of its result are trees that stay as they are. -/
noncomputable def lowTP (G : Prog) (f : Nat) (t : PV → PV) (args : List PV) (o : Stack) : Option (PV × Stack) := lowTR (viaP G f t args o)
theorem lowTP_good {P : Program} {G : Prog} (ok : ProgOK P G) {f : Nat} {t : PV → PV} (ht : Reads t) {args : List PV} {o o' : Stack} {r : PV} (e : lowTP G f t args o = some (r, o')) : Good P f args o r o' := by
  unfold lowTP lowTR at e
  split at e
  · rename_i ps o1 he
    split at e
    · rename_i htr
      simp only [Option.some.injEq, Prod.mk.injEq] at e
      obtain ⟨rfl, rfl⟩ := e
      have hg := viaP_good ok ht he
      refine ⟨hg.1, fun c fp w vals st hr => (hg.2 c fp w vals st hr).mono fun e w' h => ⟨h.1, h.2.lowG ?_⟩⟩
      intro c1 c2 S1 S2 h1 h2 v f hF hf r
      obtain ⟨vs, e1, r⟩ := r
      exact ⟨vs, e1, RXs.fals hF htr hf r⟩
    · simp only [Option.some.injEq, Prod.mk.injEq] at e
      obtain ⟨rfl, rfl⟩ := e
      exact viaP_good ok ht he
  · exact viaP_good ok ht e
end Go.Am
end
section
set_option maxRecDepth 100000
set_option linter.unusedSimpArgs false
set_option linter.unusedVariables false
namespace Go.Am
open Go.Proofs Go.Sort Go.Shelf
/-- A graph whose rows or whose row of rows may be nil, read as one of empty rows. -/
def wkG (x : PV) : PV := weak 2 (nil1 1 x)
theorem reads_wkG : Reads wkG := fun r => RVal_weak 2 (reads_nil1 1 r)
theorem weak_mvP (x : Mv) : weak 2 (mvP x) = mvP x := rfl
theorem weaks_mvP : ∀ l : List Mv, weaks 2 (l.map mvP) = l.map mvP
  | [] => rfl
  | x :: l => by simp [weaks, weak_mvP, weaks_mvP l]
theorem weak_encL (nl : Bool) (l : List Mv) : weak 2 (encL nl false l) = encL false false l := by
  unfold encL
  split
  · rename_i h
    simp only [Bool.and_eq_true, List.isEmpty_iff] at h
    rw [h.2]; rfl
  · simp [weak, weaks_mvP]
theorem weaks_encGs (nl : Bool) : ∀ g : Gr, weaks 2 (encGs nl false g) = encGs false false g
  | [] => rfl
  | l :: g => by
    have := weaks_encGs nl g
    simp only [encGs, List.map_cons, weaks, weak_encL] at this ⊢
    rw [this]
theorem wkG_enc (nl : Bool) (g : Gr) : wkG (encG nl false g) = encG false false g := by
  unfold wkG encG encM'
  split
  · rename_i h
    simp only [Bool.and_eq_true, List.isEmpty_iff] at h
    rw [h.2]; rfl
  · have : nil1 1 (.agg [.sl false 1 (encGs nl false g)]) = .agg [.sl false 1 (encGs nl false g)] := rfl
    rw [this]
    simp [weak, weaks, weaks_encGs]
theorem reads_id : Reads id := fun r => r
noncomputable def primsH : Nat → Option (List PV → Stack → Option (PV × Stack))
  | 96 => some (sortP 89 (ltOf cmpM))
  | 56 => some cloneMv
  | 137 => some sortI
  | 22 => some (lowTP G 22 wkG)
  | 23 => some (viaP G 23 wkG)
  | 26 => some (lowTP G 26 wkG)
  | 27 => some (viaP G 27 wkG)
  | 34 => some (lowTP G 34 wkG)
  | 35 => some (viaP G 35 wkG)
  | 28 => some (viaP G 28 wkG)
  | 68 => some (viaP G 68 wkG)
  | 94 => some (viaP G 94 id)
  | 19 => some (viaP G 19 wkG)
  | 44 => some (viaP G 44 wkG)
  | 114 => some (lowP G 114 wkG)
  | 115 => some (lowP G 115 wkG)
  | _ => none
noncomputable def H : Prog := ⟨codes, primsH⟩
theorem gpH (n : Nat) (h : primsH n = none := by rfl) : H.prim n = none := h
theorem progOKH : ProgOK Try.prog H := by
  refine ⟨progOK.1, fun f af _ h => progOK0.code f af rfl h, fun f p h => ?_⟩
  simp only [H] at h
  unfold primsH at h
  split at h
  all_goals first
    | exact progOK.prim _ _ h
    | (simp only [Option.some.injEq] at h; subst h; intro args o r o' e; first | exact viaP_good progOK reads_wkG e | exact lowTP_good progOK reads_wkG e | exact viaP_good progOK reads_id e | exact lowP_good progOK reads_wkG e)
    | (cases h; done)
end Go.Am
end
section
set_option maxRecDepth 100000
set_option linter.unusedSimpArgs false
set_option linter.unusedVariables false
namespace Go.Am
open Go.Proofs Go.Sort Go.Shelf
/-! the machine of the laws: what is drawn stays as it is -/
noncomputable def primsL : Nat → Option (List PV → Stack → Option (PV × Stack))
  | 21 => some (lowTP H 21 id)
  | 25 => some (lowTP H 25 id)
  | 33 => some (lowTP H 33 id)
  | 23 => some (lowTP G 23 wkG)
  | 27 => some (lowTP G 27 wkG)
  | 35 => some (lowTP G 35 wkG)
  | 28 => some (lowTP G 28 wkG)
  | 32 => some (viaP H 32 id)
  | n => primsH n
noncomputable def L : Prog := ⟨codes, primsL⟩
theorem gpL (n : Nat) (h : primsL n = none := by rfl) : L.prim n = none := h
theorem progOKL : ProgOK Try.prog L := by
  refine ⟨progOK.1, fun f af _ h => progOK0.code f af rfl h, fun f p h => ?_⟩
  simp only [L] at h
  unfold primsL at h
  split at h
  all_goals first
    | exact progOKH.prim _ _ h
    | (simp only [Option.some.injEq] at h; subst h; intro args o r o' e; first | exact lowTP_good progOKH reads_id e | exact lowTP_good progOK reads_wkG e | exact viaP_good progOKH reads_id e)
    | (cases h; done)
end Go.Am
end
section
set_option maxRecDepth 10000
set_option linter.unusedSimpArgs false
set_option linter.unusedVariables false
namespace Go.Am
open Go.Proofs
/-! #### comparing -/
end Go.Am
end
section
set_option maxRecDepth 10000
set_option linter.unusedSimpArgs false
set_option linter.unusedVariables false
namespace Go.Am
open Go.Proofs
/-! #### marked graphs: every field bears the next number -/
def mkL : Int → List Mv → List Mv
  | _, [] => []
  | k, _ :: l => (k, k + 1) :: mkL (k + 2) l
def mkG : Int → Gr → Gr
  | _, [] => []
  | k, l :: g => mkL k l :: mkG (k + 2 * l.length) g
@[simp] theorem mkL_len : ∀ (k : Int) (l : List Mv), (mkL k l).length = l.length
  | _, [] => rfl
  | k, _ :: l => by simp [mkL, mkL_len _ l]
@[simp] theorem mkG_len : ∀ (k : Int) (g : Gr), (mkG k g).length = g.length
  | _, [] => rfl
  | k, _ :: l => by simp [mkG, mkG_len _ l]
theorem at_D (D : List PV) (x : PV) (E : List PV) (n : Nat) (h : n = D.length) : nth (D ++ x :: E) n = some x := by
  subst h
  unfold nth
  rw [List.getElem?_append_right (Nat.le_refl _)]
  simp
theorem set_D (D : List PV) (x y : PV) (E : List PV) (n : Nat) (h : n = D.length) : (D ++ x :: E).set n y = D ++ y :: E := by
  subst h
  rw [List.set_append_right _ _ (Nat.le_refl _)]
  simp
/-! #### held -/
end Go.Am
end
section
set_option maxRecDepth 10000
set_option linter.unusedSimpArgs false
set_option linter.unusedVariables false
namespace Go.Am
open Go.Proofs Go.Sort Go.Shelf
theorem eqNaN (a : Int) : callI G 116 [.i a] [] = some (.b false, []) := by
  rw [callI_eq]
  simp [body1_eq _ _ (gp 116) g116, c116, a116]
theorem eqCmp (a b : Int) : callI G 103 [.i a, .i b] [] = some (.i (cmpI a b), []) := by
  have h1 := eqNaN a
  have h2 := eqNaN b
  rw [callI_eq]
  unfold cmpI
  by_cases c1 : a < b
  · simp [body1_eq _ _ (gp 103) g103, c103, a103, h1, h2, c1]
  · by_cases c2 : b < a
    · simp [body1_eq _ _ (gp 103) g103, c103, a103, h1, h2, c1, c2]
    · simp [body1_eq _ _ (gp 103) g103, c103, a103, h1, h2, c1, c2]
theorem eqByMove (x y : Int × Int) : callI G 89 [mvP x, mvP y] [] = some (.i (cmpM x y), []) := by
  have h1 := eqCmp x.1 y.1
  have h2 := eqCmp x.2 y.2
  rw [callI_eq]
  unfold cmpM
  by_cases c1 : cmpI x.1 y.1 = 0
  · simp [body1_eq _ _ (gp 89) g89, c89, a89, mvP, h1, h2, c1]
  · simp [body1_eq _ _ (gp 89) g89, c89, a89, mvP, h1, h2, c1]
theorem cmpM_ge (x y : Mv) : decide (0 ≤ cmpM x y) = !ltM x y := by
  unfold ltM ltOf
  by_cases h : cmpM x y < 0
  · have : ¬ 0 ≤ cmpM x y := by omega
    simp [h, this]
  · have : 0 ≤ cmpM x y := by omega
    simp [h, this]
theorem eqLess (x y : Mv) : callI G 90 [mvP x, mvP y] [] = some (.b (ltM x y), []) := by
  rw [callI_eq]
  have h : ltM x y = (decide (x.1 < y.1) || decide (x.1 = y.1) && decide (x.2 < y.2)) := by
    have := ltM_iff x y
    cases e : ltM x y with
    | true => have := this.1 e; rcases this with h | ⟨h1, h2⟩ <;> simp [*]
    | false =>
      have h3 := (ltM_false x y).1 e
      have : ¬ x.1 < y.1 := by omega
      by_cases c : x.1 = y.1
      · have : ¬ x.2 < y.2 := by omega
        simp [*]
      · simp [*]
  rw [h]
  by_cases c1 : x.1 < y.1
  · simp [body1_eq _ _ (gp 90) g90, c90, a90, mvP, c1]
  · by_cases c2 : x.1 = y.1
    · simp [body1_eq _ _ (gp 90) g90, c90, a90, mvP, c1, c2]
    · simp [body1_eq _ _ (gp 90) g90, c90, a90, mvP, c1, c2]
theorem l6In (n a b : Int) : callI G 60 [.i n, .i a, .i b] [] = some (.b (decide (a ≤ n) && decide (n ≤ b)), []) := by
  rw [callI_eq]
  by_cases h : a ≤ n <;> simp [body1_eq _ _ (gp 60) g60, c60, a60, h]
def actOk (a : Int) : Bool := decide (-4 ≤ a) && decide (a ≤ 4)
theorem eqActS (a : Int) : callI G 76 [.i a] [] = some (.b (actOk a), []) := by
  have h := l6In a (-4) 4
  rw [callI_eq]
  unfold actOk
  simp [body1_eq _ _ (gp 76) g76, c76, a76, h]
theorem eqActI (a : Int) : callI G 74 [.i a] [] = some (.b (actOk a), []) := by
  rw [callI_eq]
  unfold actOk
  by_cases h : -4 ≤ a <;> simp [body1_eq _ _ (gp 74) g74, c74, a74, h]
def mvOk (n : Nat) (m : Mv) : Bool := actOk m.1 && (decide (0 ≤ m.2) && decide (m.2 < n))
def prevOk : Option Mv → Mv → Bool
  | none, _ => true
  | some p, m => ltM p m
def rowOk (n : Nat) : Option Mv → List Mv → Bool
  | _, [] => true
  | p, m :: l => mvOk n m && (prevOk p m && rowOk n (some m) l)
def grOk (g : Gr) : Bool := decide (1 ≤ g.length) && (decide (g.length ≤ 60) && g.all (rowOk g.length none))
theorem last_cases (d : List Mv) : (d = [] ∧ d.getLast? = none) ∨ ∃ d' p, d = d' ++ [p] ∧ d.getLast? = some p := by
  rcases List.eq_nil_or_concat d with h | ⟨d', p, h⟩
  · exact .inl ⟨h, by rw [h]; rfl⟩
  · exact .inr ⟨d', p, by simpa using h, by rw [h]; simp⟩
/-! impl.GraphOk -/
theorem loopOkI0 (g : Gr) (T : PV) (hT : ∀ f n, known f n T = true) (i m : Int) : ∀ (rest done : List Mv), (done ++ rest).length ≤ 9223372036854775807 → g.length ≤ 60 →
    ∃ r, loopI G [1, 4, 18, 19, 20, 24, 25, 26] [1] c44l0 ⟨[(1, .ref (0, 1) 1 0 0), (4, .sl false 2 ((done ++ rest).map mvP)), (18, T), (19, .i m), (20, .i i), (24, .sl false 2 ((done ++ rest).map mvP)), (25, .i (done ++ rest).length), (26, .i done.length)], [(1, .box [PV.sl false 1 (encGs false false g)])], []⟩ = some r ∧
      ((rowOk g.length done.getLast? rest = false ∧ r = (.ret, ⟨[(2, .b false)], [], []⟩)) ∨ (rowOk g.length done.getLast? rest = true ∧ r = (.exit 2, ⟨[(1, .ref (0, 1) 1 0 0), (4, .sl false 2 ((done ++ rest).map mvP)), (18, T), (19, .i m), (20, .i i), (24, .sl false 2 ((done ++ rest).map mvP)), (25, .i (done ++ rest).length), (26, .i (done ++ rest).length), (27, .b false)], [(1, .box [PV.sl false 1 (encGs false false g)])], []⟩)))
  | [], done, h, hg => by
    rw [loopI_eq]
    refine ⟨_, ?_, .inr ⟨rfl, rfl⟩⟩
    simp [r44l0, b44l0, hT]
  | x :: rest, done, h, hg => by
    have hlt : (done.length : Int) < (done.length : Int) + ((rest.length : Int) + 1) := by omega
    have hw : IntKind.i64.wrap ((done.length : Int) + 1) = (done.length : Int) + 1 := wr (by simp at h; omega)
    have hat := mv_at done x rest
    have ha := eqActI x.1
    obtain ⟨r, hn, hr⟩ := loopOkI0 g T hT i m rest (done ++ [x]) (by simpa using h) hg
    have hgl : (done ++ [x]).getLast? = some x := by simp
    rw [hgl] at hr
    simp only [List.append_assoc, List.cons_append, List.nil_append, List.length_append, List.length_cons, List.length_nil, Int.natCast_add, show ((0 + 1 : Nat) : Int) = 1 from rfl, show ((1 : Nat) : Int) = 1 from rfl, List.map_append, List.map_cons, mvP] at hn hr hat
    rw [loopI_eq]
    by_cases h1 : actOk x.1 = true
    · by_cases h2 : x.2 < 0
      · refine ⟨_, ?_, .inl ⟨?_, rfl⟩⟩
        · simp [r44l0, b44l0, hT, hlt, hat, mvP, ha, h1, h2]
        · have : ¬ 0 ≤ x.2 := by omega
          simp [rowOk, mvOk, this]
      · by_cases h3 : (g.length : Int) ≤ x.2
        · refine ⟨_, ?_, .inl ⟨?_, rfl⟩⟩
          · simp [r44l0, b44l0, hT, hlt, hat, mvP, ha, h1, h2, h3]
          · have : ¬ x.2 < g.length := by omega
            simp [rowOk, mvOk, this]
        · have h2' : 0 ≤ x.2 := by omega
          have h3' : x.2 < g.length := by omega
          have hm : mvOk g.length x = true := by simp [mvOk, h1, h2', h3']
          rcases last_cases done with ⟨hd, hl⟩ | ⟨d', p, hd, hl⟩
          · subst hd
            simp only [List.length_nil, List.nil_append, show ((0 : Nat) : Int) = 0 from rfl, List.map_nil, Int.zero_add] at hn hat hlt hw hr ⊢
            refine ⟨r, ?_, ?_⟩
            · simp [r44l0, b44l0, hT, hlt, hat, mvP, ha, h1, h2, h3, hw]
              simpa [mvP] using hn
            · rcases hr with ⟨q1, q2⟩ | ⟨q1, q2⟩
              · exact .inl ⟨by simp [rowOk, prevOk, q1], q2⟩
              · exact .inr ⟨by simp [rowOk, prevOk, q1, hm], by simpa [mvP] using q2⟩
          · have hb := eqByMove p x
            have hge := cmpM_ge p x
            have hdl : (done.length : Int) = (d'.length : Int) + 1 := by rw [hd]; simp
            have hpos : 0 < (done.length : Int) := by omega
            have hne : done ≠ [] := by rw [hd]; simp
            have hwm : IntKind.i64.wrap ((done.length : Int) - 1) = d'.length := by rw [hdl, wr (by simp at h; omega)]; omega
            have hat2 : nth (done.map mvP ++ mvP x :: rest.map mvP) d'.length = some (mvP p) := by
              rw [hd]; simp only [List.map_append, List.map_cons, List.map_nil, List.append_assoc, List.cons_append, List.nil_append]
              exact at_D _ _ _ _ (by simp)
            have hlt2 : (d'.length : Int) < (done.length : Int) + ((rest.length : Int) + 1) := by omega
            simp only [mvP] at hb hat2
            cases hv : ltM p x with
            | false =>
              rw [hv] at hge
              have hge' : 0 ≤ cmpM p x := by simpa using hge
              refine ⟨_, ?_, .inl ⟨by rw [hl]; simp [rowOk, prevOk, hv], rfl⟩⟩
              simp [r44l0, b44l0, hT, hlt, hat, mvP, ha, h1, h2, h3, hpos, hwm, hat2, hlt2, hb, hge', hne]
            | true =>
              rw [hv] at hge
              have hge' : ¬ 0 ≤ cmpM p x := by simpa using hge
              refine ⟨r, ?_, ?_⟩
              · simp [r44l0, b44l0, hT, hlt, hat, mvP, ha, h1, h2, h3, hpos, hwm, hat2, hlt2, hb, hge', hw, hne]
                simpa [mvP] using hn
              · rw [hl]
                rcases hr with ⟨q1, q2⟩ | ⟨q1, q2⟩
                · exact .inl ⟨by simp [rowOk, prevOk, q1], q2⟩
                · exact .inr ⟨by simp [rowOk, prevOk, q1, hm, hv], by simpa [mvP] using q2⟩
    · have h1' : actOk x.1 = false := by simpa using h1
      refine ⟨_, ?_, .inl ⟨by simp [rowOk, mvOk, h1'], rfl⟩⟩
      simp [r44l0, b44l0, hT, hlt, hat, mvP, ha, h1']
theorem loopOkI1 (g : Gr) (hf : FitG g) (hg : g.length ≤ 60) : ∀ (rest done : Gr), g = done ++ rest →
    ∃ r, loopI G [1, 18, 19, 20] [1] c44l1 ⟨[(1, .ref (0, 1) 1 0 0), (18, .sl false 1 (encGs false false g)), (19, .i g.length), (20, .i done.length)], [(1, .box [PV.sl false 1 (encGs false false g)])], []⟩ = some r ∧
      ((rest.all (rowOk g.length none) = false ∧ r = (.ret, ⟨[(2, .b false)], [], []⟩)) ∨ (rest.all (rowOk g.length none) = true ∧ ∃ s, r = (.exit 0, s) ∧ s.o = [] ∧ s.l = [(1, .box [PV.sl false 1 (encGs false false g)])]))
  | [], done, h => by
    rw [loopI_eq]
    have : done.length = g.length := by rw [h]; simp
    refine ⟨(.exit 0, ⟨[(1, .ref (0, 1) 1 0 0), (18, .sl false 1 (encGs false false g)), (19, .i g.length), (20, .i g.length), (21, .b false)], [(1, .box [PV.sl false 1 (encGs false false g)])], []⟩), ?_, .inr ⟨rfl, _, rfl, rfl, rfl⟩⟩
    simp [r44l1, b44l1, this]
  | l :: rest, done, h => by
    have hlt : (done.length : Int) < g.length := by rw [h]; simp; omega
    have hw : IntKind.i64.wrap ((done.length : Int) + 1) = (done.length : Int) + 1 := wr (by omega)
    have hat : nth (encGs false false g) done.length = some (.sl false 2 (l.map mvP)) := by rw [h]; exact gr_at false false done l rest
    have hll : l.length ≤ 9223372036854775807 := hf.2 l (by rw [h]; simp)
    obtain ⟨r0, h0, hr0⟩ := loopOkI0 g (.sl false 1 (encGs false false g)) (by intro f n; rfl) done.length g.length l [] (by simpa using hll) hg
    obtain ⟨r, hn, hr⟩ := loopOkI1 g hf hg rest (done ++ [l]) (by rw [h]; simp)
    simp only [List.nil_append, List.length_nil, show ((0 : Nat) : Int) = 0 from rfl, List.getLast?_nil] at h0 hr0
    rw [loopI_eq]
    rcases hr0 with ⟨q1, q2⟩ | ⟨q1, q2⟩
    · subst q2
      refine ⟨_, ?_, .inl ⟨by simp [q1], rfl⟩⟩
      simp [r44l1, b44l1, hlt, hat, h0]
    · subst q2
      refine ⟨r, ?_, ?_⟩
      · simp [r44l1, b44l1, hlt, hat, h0, hw]
        simpa using hn
      · rcases hr with ⟨p1, p2⟩ | ⟨p1, p2⟩
        · exact .inl ⟨by simp only [List.all_cons, p1, Bool.and_false], p2⟩
        · exact .inr ⟨by simp only [List.all_cons, p1, q1, Bool.and_true], p2⟩
theorem eqOkI (g : Gr) (hf : FitG g) : callI G 44 [encG false false g] [] = some (.b (grOk g), []) := by
  rw [callI_eq]
  unfold grOk
  by_cases h1 : (g.length : Int) < 1
  · have : ¬ 1 ≤ g.length := by omega
    simp [body1_eq _ _ (gp 44) g44, c44, a44, h1, this]
  · have h1' : 1 ≤ g.length := by omega
    by_cases h2 : (60 : Int) < g.length
    · have : ¬ g.length ≤ 60 := by omega
      simp [body1_eq _ _ (gp 44) g44, c44, a44, h1, h2, this]
    · have h2' : g.length ≤ 60 := by omega
      obtain ⟨r, hl, hr⟩ := loopOkI1 g hf h2' g [] rfl
      simp only [List.length_nil, show ((0 : Nat) : Int) = 0 from rfl, encM_f] at hl hr
      rcases hr with ⟨p1, p2⟩ | ⟨p1, s, p2, p3, p4⟩
      · subst p2
        simp only [p1]
        simp [body1_eq _ _ (gp 44) g44, c44, a44, h1, h2, hl]
      · subst p2
        obtain ⟨sr, sl, so⟩ := s
        simp only at p3 p4
        subst p3 p4
        simp only [p1]
        simp [body1_eq _ _ (gp 44) g44, c44, a44, h1, h2, h1', h2', hl]
end Go.Am
end
section
set_option maxRecDepth 10000
set_option linter.unusedSimpArgs false
set_option linter.unusedVariables false
namespace Go.Am
open Go.Proofs Go.Sort Go.Shelf
/-! spec.GraphOk -/
theorem loopOkS0 (g : Gr) (D : Nat) (hD : D < g.length) (hg : g.length ≤ 60) : ∀ (rest done : List Mv), nth (encGs false false g) D = some (.sl false 2 ((done ++ rest).map mvP)) → (done ++ rest).length ≤ 9223372036854775807 →
    ∃ r, loopI G [1, 3, 4] [1] c47l0 ⟨[(1, .ref (0, 1) 1 0 0), (3, .i D), (4, .i done.length)], [(1, .box [PV.sl false 1 (encGs false false g)])], []⟩ = some r ∧
      ((rowOk g.length done.getLast? rest = false ∧ r = (.ret, ⟨[(2, .b false)], [], []⟩)) ∨ (rowOk g.length done.getLast? rest = true ∧ r = (.exit 2, ⟨[(1, .ref (0, 1) 1 0 0), (3, .i D), (4, .i (done ++ rest).length), (25, .b false)], [(1, .box [PV.sl false 1 (encGs false false g)])], []⟩)))
  | [], done, hn, h => by
    have hlt : (D : Int) < g.length := by omega
    rw [loopI_eq]
    refine ⟨_, ?_, .inr ⟨rfl, rfl⟩⟩
    simp only [List.append_nil] at hn
    simp [r47l0, b47l0, hlt, hn]
  | x :: rest, done, hnD, h => by
    have hltD : (D : Int) < g.length := by omega
    have hlt : (done.length : Int) < (done.length : Int) + ((rest.length : Int) + 1) := by omega
    have hw : IntKind.i64.wrap ((done.length : Int) + 1) = (done.length : Int) + 1 := wr (by simp at h; omega)
    have hwg : IntKind.i64.wrap ((g.length : Int) - 1) = (g.length : Int) - 1 := wr (by omega)
    have hat := mv_at done x rest
    have ha := eqActS x.1
    have h6 := l6In x.2 0 ((g.length : Int) - 1)
    obtain ⟨r, hn, hr⟩ := loopOkS0 g D hD hg rest (done ++ [x]) (by simpa using hnD) (by simpa using h)
    have hgl : (done ++ [x]).getLast? = some x := by simp
    rw [hgl] at hr
    simp only [List.append_assoc, List.cons_append, List.nil_append, List.length_append, List.length_cons, List.length_nil, Int.natCast_add, show ((0 + 1 : Nat) : Int) = 1 from rfl, show ((1 : Nat) : Int) = 1 from rfl, List.map_append, List.map_cons, mvP] at hn hr hat hnD
    rw [loopI_eq]
    by_cases h1 : actOk x.1 = true
    · have h6b : (decide (0 ≤ x.2) && decide (x.2 ≤ (g.length : Int) - 1)) = (decide (0 ≤ x.2) && decide (x.2 < g.length)) := by
        congr 1
        exact decide_eq_decide.2 (by omega)
      rw [h6b] at h6
      by_cases h2 : (decide (0 ≤ x.2) && decide (x.2 < g.length)) = true
      · rw [h2] at h6
        have hm : mvOk g.length x = true := by unfold mvOk; rw [h1, h2]; rfl
        rcases last_cases done with ⟨hd, hl⟩ | ⟨d', p, hd, hl⟩
        · subst hd
          simp only [List.length_nil, List.nil_append, show ((0 : Nat) : Int) = 0 from rfl, List.map_nil, Int.zero_add] at hn hat hlt hw hr hnD ⊢
          refine ⟨r, ?_, ?_⟩
          · simp [r47l0, b47l0, hltD, hnD, hlt, hat, mvP, ha, h1, h6, hw, hwg]
            simpa [mvP] using hn
          · rcases hr with ⟨q1, q2⟩ | ⟨q1, q2⟩
            · exact .inl ⟨by simp [rowOk, prevOk, q1], q2⟩
            · exact .inr ⟨by simp [rowOk, prevOk, q1, hm], by simpa [mvP] using q2⟩
        · have hb := eqLess p x
          have hdl : (done.length : Int) = (d'.length : Int) + 1 := by rw [hd]; simp
          have hpos : 0 < (done.length : Int) := by omega
          have hne : done ≠ [] := by rw [hd]; simp
          have hwm : IntKind.i64.wrap ((done.length : Int) - 1) = d'.length := by rw [hdl, wr (by simp at h; omega)]; omega
          have hat2 : nth (done.map mvP ++ mvP x :: rest.map mvP) d'.length = some (mvP p) := by
            rw [hd]; simp only [List.map_append, List.map_cons, List.map_nil, List.append_assoc, List.cons_append, List.nil_append]
            exact at_D _ _ _ _ (by simp)
          have hlt2 : (d'.length : Int) < (done.length : Int) + ((rest.length : Int) + 1) := by omega
          simp only [mvP] at hb hat2
          cases hv : ltM p x with
          | false =>
            rw [hv] at hb
            refine ⟨_, ?_, .inl ⟨by rw [hl]; simp [rowOk, prevOk, hv], rfl⟩⟩
            simp [r47l0, b47l0, hltD, hnD, hlt, hat, mvP, ha, h1, h6, hwg, hpos, hne, hwm, hat2, hlt2, hb]
          | true =>
            rw [hv] at hb
            refine ⟨r, ?_, ?_⟩
            · simp [r47l0, b47l0, hltD, hnD, hlt, hat, mvP, ha, h1, h6, hwg, hpos, hne, hwm, hat2, hlt2, hb, hw]
              simpa [mvP] using hn
            · rw [hl]
              rcases hr with ⟨q1, q2⟩ | ⟨q1, q2⟩
              · exact .inl ⟨by simp [rowOk, prevOk, q1], q2⟩
              · exact .inr ⟨by simp [rowOk, prevOk, q1, hm, hv], by simpa [mvP] using q2⟩
      · have h2' : (decide (0 ≤ x.2) && decide (x.2 < g.length)) = false := by simpa using h2
        rw [h2'] at h6
        refine ⟨_, ?_, .inl ⟨by simp only [rowOk, mvOk, h2', Bool.and_false, Bool.false_and], rfl⟩⟩
        simp [r47l0, b47l0, hltD, hnD, hlt, hat, mvP, ha, h1, h6, hwg]
    · have h1' : actOk x.1 = false := by simpa using h1
      refine ⟨_, ?_, .inl ⟨by simp [rowOk, mvOk, h1'], rfl⟩⟩
      simp [r47l0, b47l0, hltD, hnD, hlt, hat, mvP, ha, h1']
theorem loopOkS1 (g : Gr) (hf : FitG g) (hg : g.length ≤ 60) : ∀ (rest done : Gr), g = done ++ rest →
    ∃ r, loopI G [1, 3] [1] c47l1 ⟨[(1, .ref (0, 1) 1 0 0), (3, .i done.length)], [(1, .box [PV.sl false 1 (encGs false false g)])], []⟩ = some r ∧
      ((rest.all (rowOk g.length none) = false ∧ r = (.ret, ⟨[(2, .b false)], [], []⟩)) ∨ (rest.all (rowOk g.length none) = true ∧ ∃ s, r = (.exit 0, s) ∧ s.o = [] ∧ s.l = [(1, .box [PV.sl false 1 (encGs false false g)])]))
  | [], done, h => by
    rw [loopI_eq]
    have : done.length = g.length := by rw [h]; simp
    refine ⟨(.exit 0, ⟨[(1, .ref (0, 1) 1 0 0), (3, .i g.length), (15, .b false)], [(1, .box [PV.sl false 1 (encGs false false g)])], []⟩), ?_, .inr ⟨rfl, _, rfl, rfl, rfl⟩⟩
    simp [r47l1, b47l1, this]
  | l :: rest, done, h => by
    have hD : done.length < g.length := by rw [h]; simp
    have hlt : (done.length : Int) < g.length := by omega
    have hw : IntKind.i64.wrap ((done.length : Int) + 1) = (done.length : Int) + 1 := wr (by omega)
    have hat : nth (encGs false false g) done.length = some (.sl false 2 (l.map mvP)) := by rw [h]; exact gr_at false false done l rest
    have hll : l.length ≤ 9223372036854775807 := hf.2 l (by rw [h]; simp)
    obtain ⟨r0, h0, hr0⟩ := loopOkS0 g done.length hD hg l [] (by simpa using hat) (by simpa using hll)
    obtain ⟨r, hn, hr⟩ := loopOkS1 g hf hg rest (done ++ [l]) (by rw [h]; simp)
    simp only [List.nil_append, List.length_nil, show ((0 : Nat) : Int) = 0 from rfl, List.getLast?_nil] at h0 hr0
    rw [loopI_eq]
    rcases hr0 with ⟨q1, q2⟩ | ⟨q1, q2⟩
    · subst q2
      refine ⟨_, ?_, .inl ⟨by simp [q1], rfl⟩⟩
      simp [r47l1, b47l1, hlt, h0]
    · subst q2
      refine ⟨r, ?_, ?_⟩
      · simp [r47l1, b47l1, hlt, h0, hw]
        simpa using hn
      · rcases hr with ⟨p1, p2⟩ | ⟨p1, p2⟩
        · exact .inl ⟨by simp only [List.all_cons, p1, Bool.and_false], p2⟩
        · exact .inr ⟨by simp only [List.all_cons, p1, q1, Bool.and_true], p2⟩
theorem eqOkS (g : Gr) (hf : FitG g) : callI G 47 [encG false false g] [] = some (.b (grOk g), []) := by
  rw [callI_eq]
  unfold grOk
  have h6 := l6In g.length 1 60
  by_cases h1 : (1 : Int) ≤ g.length
  · have h1' : 1 ≤ g.length := by omega
    by_cases h2 : (g.length : Int) ≤ 60
    · have h2' : g.length ≤ 60 := by omega
      rw [decide_eq_true h1, decide_eq_true h2] at h6
      obtain ⟨r, hl, hr⟩ := loopOkS1 g hf h2' g [] rfl
      simp only [List.length_nil, show ((0 : Nat) : Int) = 0 from rfl, encM_f] at hl hr
      rcases hr with ⟨p1, p2⟩ | ⟨p1, s, p2, p3, p4⟩
      · subst p2
        simp only [p1]
        simp [body1_eq _ _ (gp 47) g47, c47, a47, h6, hl]
      · subst p2
        obtain ⟨sr, sl, so⟩ := s
        simp only at p3 p4
        subst p3 p4
        simp only [p1]
        simp [body1_eq _ _ (gp 47) g47, c47, a47, h6, h1', h2', hl]
    · have : ¬ g.length ≤ 60 := by omega
      rw [decide_eq_false h2] at h6
      simp [body1_eq _ _ (gp 47) g47, c47, a47, h6, this]
  · have : ¬ 1 ≤ g.length := by omega
    rw [decide_eq_false h1] at h6
    simp [body1_eq _ _ (gp 47) g47, c47, a47, h6, this]
end Go.Am
end
section
set_option maxRecDepth 10000
set_option linter.unusedSimpArgs false
set_option linter.unusedVariables false
namespace Go.Am
open Go.Proofs Go.Sort Go.Shelf
/-- Without neighbours that are the same. -/
def ddup : Mv → List Mv → List Mv
  | _, [] => []
  | p, x :: l => if x = p then ddup p l else x :: ddup x l
def dd : List Mv → List Mv
  | [] => []
  | x :: l => x :: ddup x l
theorem ddup_len : ∀ (p : Mv) (l : List Mv), (ddup p l).length ≤ l.length
  | _, [] => Nat.le_refl _
  | p, x :: l => by
    simp only [ddup]
    split
    · have := ddup_len p l; simp; omega
    · have := ddup_len x l; simp; omega
theorem loopCp0 (id : Id) (N : Nat) (k0 : Nat) : ∀ (rest W M : List Mv) (p : Mv) (o : Stack), id.1 < o.length → getS o id = some (.row 2 ((W ++ (M ++ p :: rest)).map mvP)) → N = W.length + M.length + 1 + rest.length → N ≤ 4611686018427387904 → ∀ k2 : Nat, 1 ≤ k2 → k0 + k2 = W.length + M.length + 1 →
    ∃ Z : List Mv, Z.length = N - (W ++ ddup p rest).length ∧ loopI G [0, 3, 4, 5] [28] c97l0 ⟨[(0, .own id N), (3, .i W.length), (4, .sub id N k0), (5, .i k2)], [], o⟩ =
      some (.exit 2, ⟨[(0, .own id N), (3, .i (W ++ ddup p rest).length), (4, .sub id N k0), (5, .i (k2 + rest.length)), (32, .b false)], [], setS o id (.row 2 (((W ++ ddup p rest) ++ Z).map mvP))⟩)
  | [], W, M, p, o, hid, hg, hN, hNN, k2, hk2, hk => by
    have hne : ¬ id.1 = o.length := by omega
    refine ⟨M ++ [p], by simp [ddup]; simp at hN; omega, ?_⟩
    have e2 : setS o id (.row 2 (((W ++ ddup p []) ++ (M ++ [p])).map mvP)) = o := setS_same o id _ (by simpa [ddup] using hg)
    rw [e2, loopI_eq]
    have hget : ∀ r l, St.get ⟨r, l, o⟩ id = some (.row 2 ((W ++ (M ++ [p])).map mvP)) := fun r l => by rw [get_low hid, hg]
    have hl : N = W.length + (M.length + 1) := by simp at hN; omega
    have hsub : N - k0 = k2 := by simp at hN; omega
    simp [-St.get, -St.set, r97l0, b97l0, hne, hget, ← hl, hsub, ddup]
  | x :: rest, W, M, p, o, hid, hg, hN, hNN, k2, hk2, hk => by
    simp only [List.length_cons] at hN
    have hne : ¬ id.1 = o.length := by omega
    have hget : ∀ r l, St.get ⟨r, l, o⟩ id = some (.row 2 ((W ++ (M ++ p :: x :: rest)).map mvP)) := fun r l => by rw [get_low hid, hg]
    have hset : ∀ r l R, St.set ⟨r, l, o⟩ id R = ⟨r, l, setS o id R⟩ := fun r l R => set_low hid
    have hget2 : ∀ r l R, St.get ⟨r, l, setS o id R⟩ id = some R := fun r l R => by rw [get_low (by rw [setS_len]; exact hid), getS_setS hid]
    have hl : W.length + (M.length + (rest.length + 1 + 1)) = N := by omega
    have hlt : (k2 : Int) < ((N - k0 : Nat) : Int) := by omega
    have hlt2 : (k2 : Int) - 1 < ((N - k0 : Nat) : Int) := by omega
    have hge : (0 : Int) ≤ (k2 : Int) - 1 := by omega
    have htn : ((k2 : Int) - 1).toNat = k2 - 1 := by omega
    have hw : IntKind.i64.wrap ((k2 : Int) + 1) = (k2 : Int) + 1 := wr (by omega)
    have hw1 : IntKind.i64.wrap ((k2 : Int) - 1) = (k2 : Int) - 1 := wr (by omega)
    have hwW : IntKind.i64.wrap ((W.length : Int) + 1) = (W.length : Int) + 1 := wr (by omega)
    have hat : nth (W.map mvP ++ (M.map mvP ++ mvP p :: mvP x :: rest.map mvP)) (k0 + k2) = some (mvP x) := by
      have := at_D ((W ++ (M ++ [p])).map mvP) (mvP x) (rest.map mvP) (k0 + k2) (by simp; omega)
      simpa using this
    have hat1 : nth (W.map mvP ++ (M.map mvP ++ mvP p :: mvP x :: rest.map mvP)) (k0 + (k2 - 1)) = some (mvP p) := by
      have := at_D ((W ++ M).map mvP) (mvP p) ((x :: rest).map mvP) (k0 + (k2 - 1)) (by simp; omega)
      simpa using this
    have hlW : (W.length : Int) < N := by omega
    have hk1 : (1 : Int) ≤ k2 := by omega
    by_cases he : x = p
    · subst he
      obtain ⟨Z, hZ, hn⟩ := loopCp0 id N k0 rest W (M ++ [x]) x o hid (by simpa using hg) (by simp; omega) hNN (k2 + 1) (by omega) (by simp; omega)
      refine ⟨Z, by simpa [ddup] using hZ, ?_⟩
      simp only [Int.natCast_add, show ((1 : Nat) : Int) = 1 from rfl] at hn
      rw [loopI_eq]
      simp only [mvP] at hat hat1
      simp [-St.get, -St.set, r97l0, b97l0, mvP, hne, hget, hl, hk1, hlt, hlt2, hge, htn, hw, hw1, hat, hat1]
      simpa [ddup, Int.add_assoc, Int.add_comm 1] using hn
    · obtain ⟨M', hM', hrow⟩ : ∃ M' : List Mv, M'.length = M.length ∧ (W.map mvP ++ (M.map mvP ++ mvP p :: mvP x :: rest.map mvP)).set W.length (mvP x) = ((W ++ [x]) ++ (M' ++ x :: rest)).map mvP := by
        cases M with
        | nil =>
          refine ⟨[], rfl, ?_⟩
          rw [List.map_nil, List.nil_append, List.set_append_right _ _ (by simp)]
          simp
        | cons m M0 =>
          refine ⟨M0 ++ [p], by simp, ?_⟩
          rw [List.set_append_right _ _ (by simp)]
          simp
      have hatW : ∃ e, nth (W.map mvP ++ (M.map mvP ++ mvP p :: mvP x :: rest.map mvP)) W.length = some (mvP e) := by
        cases M with
        | nil => exact ⟨p, by have := at_D (W.map mvP) (mvP p) (mvP x :: rest.map mvP) W.length (by simp); simpa using this⟩
        | cons m M0 => exact ⟨m, by have := at_D (W.map mvP) (mvP m) (M0.map mvP ++ mvP p :: mvP x :: rest.map mvP) W.length (by simp); simpa using this⟩
      obtain ⟨e, hatW⟩ := hatW
      obtain ⟨Z, hZ, hn⟩ := loopCp0 id N k0 rest (W ++ [x]) M' x (setS o id (.row 2 (((W ++ [x]) ++ (M' ++ x :: rest)).map mvP))) (by rw [setS_len]; exact hid) (by rw [getS_setS hid]) (by simp; omega) hNN (k2 + 1) (by omega) (by simp; omega)
      rw [setS_setS] at hn
      have hdd : W ++ ddup p (x :: rest) = (W ++ [x]) ++ ddup x rest := by simp [ddup, he]
      refine ⟨Z, by rw [hdd]; exact hZ, ?_⟩
      rw [hdd]
      simp only [Int.natCast_add, show ((1 : Nat) : Int) = 1 from rfl] at hn
      rw [loopI_eq]
      have hxp : ¬ (x.1 = p.1 ∧ x.2 = p.2) := fun h => he (Prod.ext h.1 h.2)
      have hdec : (decide (x.1 = p.1) && decide (x.2 = p.2)) = false := by
        rw [← Bool.decide_and]; exact decide_eq_false hxp
      simp only [mvP] at hat hat1 hatW hrow
      simp [-St.get, -St.set, r97l0, b97l0, mvP, hne, hget, hset, hl, hk1, hlt, hlt2, hge, htn, hw, hw1, hwW, hat, hat1, hatW, hdec, hlW, unAgg, hrow, setS_len]
      simpa [mvP, Int.add_assoc, Int.add_comm 1, setS_len] using hn
theorem loopCp1 (id : Id) (N : Nat) : ∀ (rest done : List Mv) (p : Mv) (o : Stack), id.1 < o.length → getS o id = some (.row 2 ((done ++ p :: rest).map mvP)) → N = done.length + 1 + rest.length → N ≤ 4611686018427387904 →
    (ddup p rest = rest ∧ loopI G [0, 3] [] c97l1 ⟨[(0, .own id N), (3, .i (done.length + 1))], [], o⟩ = some (.exit 0, ⟨[(0, .own id N), (3, .i N), (13, .b false)], [], o⟩)) ∨
    loopI G [0, 3] [] c97l1 ⟨[(0, .own id N), (3, .i (done.length + 1))], [], o⟩ = some (.ret, ⟨[(2, .own (o.length, 59) (done ++ p :: ddup p rest).length)], [(59, .row 2 ((done ++ p :: ddup p rest).map mvP))], setS o id .dead⟩)
  | [], done, p, o, hid, hg, hN, hNN => by
    refine .inl ⟨rfl, ?_⟩
    have hl : (done.length : Int) + 1 = N := by simp at hN; omega
    have hne : ¬ id.1 = o.length := by omega
    have hget : ∀ r l, St.get ⟨r, l, o⟩ id = some (.row 2 ((done ++ [p]).map mvP)) := fun r l => by rw [get_low hid, hg]
    have hln : N = done.length + 1 := by simpa using hN
    rw [hl, loopI_eq]
    simp [-St.get, -St.set, r97l1, b97l1, hne, hget, ← hln]
  | x :: rest, done, p, o, hid, hg, hN, hNN => by
    simp only [List.length_cons] at hN
    have hne : ¬ id.1 = o.length := by omega
    have hget : ∀ r l, St.get ⟨r, l, o⟩ id = some (.row 2 ((done ++ p :: x :: rest).map mvP)) := fun r l => by rw [get_low hid, hg]
    have hset : ∀ r l R, St.set ⟨r, l, o⟩ id R = ⟨r, l, setS o id R⟩ := fun r l R => set_low hid
    have hget2 : ∀ r l R, St.get ⟨r, l, setS o id R⟩ id = some R := fun r l R => by rw [get_low (by rw [setS_len]; exact hid), getS_setS hid]
    have hlt : (done.length : Int) + 1 < N := by omega
    have hw : IntKind.i64.wrap ((done.length : Int) + 1 + 1) = (done.length : Int) + 1 + 1 := wr (by omega)
    have hw2 : IntKind.i64.wrap ((done.length : Int) + 2) = (done.length : Int) + 2 := wr (by omega)
    have hw1 : IntKind.i64.wrap ((done.length : Int) + 1 - 1) = (done.length : Int) := by rw [wr (by omega)]; omega
    have hw3 : IntKind.i64.wrap (done.length : Int) = (done.length : Int) := wr (by omega)
    have hlt0 : (done.length : Int) < N := by omega
    have hge0 : (0 : Int) ≤ (done.length : Int) + 1 := by omega
    have hle : (done.length : Int) + 1 ≤ N := by omega
    have hl : done.length + (rest.length + 1 + 1) = N := by omega
    have hat : nth (done.map mvP ++ mvP p :: mvP x :: rest.map mvP) (done.length + 1) = some (mvP x) := by
      have := at_D ((done ++ [p]).map mvP) (mvP x) (rest.map mvP) (done.length + 1) (by simp)
      simpa using this
    have hat1 : nth (done.map mvP ++ mvP p :: mvP x :: rest.map mvP) done.length = some (mvP p) := at_D _ _ _ _ (by simp)
    by_cases he : x = p
    · subst he
      refine .inr ?_
      obtain ⟨Z, hZ, hn⟩ := loopCp0 id N (done.length + 1) rest (done ++ [x]) [] x o hid (by simpa using hg) (by simp; omega) hNN 1 (by omega) (by simp)
      obtain ⟨K, hK⟩ : ∃ K, (done ++ [x]) ++ ddup x rest = K := ⟨_, rfl⟩
      have hK2 : done ++ x :: ddup x (x :: rest) = K := by rw [← hK]; simp [ddup]
      have hdl := ddup_len x rest
      have hKl : K.length ≤ N := by rw [← hK]; simp; omega
      rw [hK] at hn hZ
      obtain ⟨o2, ho2⟩ : ∃ o2, setS o id (.row 2 ((K ++ Z).map mvP)) = o2 := ⟨_, rfl⟩
      rw [ho2] at hn
      have hl2 : o2.length = o.length := by rw [← ho2, setS_len]
      have hget3 : ∀ r l, St.get ⟨r, l, o2⟩ id = some (.row 2 ((K ++ Z).map mvP)) := fun r l => by rw [← ho2]; exact hget2 _ _ _
      have hset3 : ∀ r l R, St.set ⟨r, l, o2⟩ id R = ⟨r, l, setS o id R⟩ := fun r l R => by rw [← ho2, set_low (by rw [setS_len]; exact hid), setS_setS]
      have hset4 : ∀ r l R R', St.set ⟨r, l, setS o id R'⟩ id R = ⟨r, l, setS o id R⟩ := fun r l R R' => by rw [set_low (by rw [setS_len]; exact hid), setS_setS]
      have hgl : ∀ r R, St.get ⟨r, [], setS o id R⟩ (o.length, 59) = none := fun r R => by simp [St.get, setS_len, getO]
      have hsl : ∀ r R R', St.set ⟨r, [], setS o id R⟩ (o.length, 59) R' = ⟨r, [(59, R')], setS o id R⟩ := fun r R R' => by simp [St.set, setS_len, setO]
      have hKZ : K.length + Z.length = N := by omega
      have hKN : N = K.length + (N - K.length) := by omega
      have hKi : (K.length : Int) ≤ N := by omega
      rw [hK2]
      simp only [List.length_append, List.length_cons, List.length_nil, Int.natCast_add, show ((0 + 1 : Nat) : Int) = 1 from rfl, show ((1 : Nat) : Int) = 1 from rfl] at hn
      rw [loopI_eq]
      simp only [mvP] at hat hat1
      simp [-St.get, -St.set, r97l1, b97l1, mvP, hne, hget, hl, hge0, hle, hlt, hlt0, hw, hw1, hw2, hw3, hat, hat1, hn, hl2, hget3, hset3, hset4, hget2, hKZ, hKi, setS_len, hgl, hsl]
      exact hKN
    · rcases loopCp1 id N rest (done ++ [p]) x o hid (by simpa using hg) (by simp; omega) hNN with ⟨hd, hn⟩ | hn
      · refine .inl ⟨by simp [ddup, he, hd], ?_⟩
        simp only [List.length_append, List.length_cons, List.length_nil, Int.natCast_add, show ((0 + 1 : Nat) : Int) = 1 from rfl, show ((1 : Nat) : Int) = 1 from rfl] at hn
        have hxp : ¬ (x.1 = p.1 ∧ x.2 = p.2) := fun h => he (Prod.ext h.1 h.2)
        have hdec : (decide (x.1 = p.1) && decide (x.2 = p.2)) = false := by
          rw [← Bool.decide_and]; exact decide_eq_false hxp
        rw [loopI_eq]
        simp only [mvP] at hat hat1
        simp [-St.get, -St.set, r97l1, b97l1, mvP, hne, hget, hl, hge0, hle, hlt, hlt0, hw, hw1, hw2, hw3, hat, hat1, hdec]
        simpa [Int.add_assoc] using hn
      · refine .inr ?_
        simp only [List.length_append, List.length_cons, List.length_nil, Int.natCast_add, show ((0 + 1 : Nat) : Int) = 1 from rfl, show ((1 : Nat) : Int) = 1 from rfl] at hn
        have hxp : ¬ (x.1 = p.1 ∧ x.2 = p.2) := fun h => he (Prod.ext h.1 h.2)
        have hdec : (decide (x.1 = p.1) && decide (x.2 = p.2)) = false := by
          rw [← Bool.decide_and]; exact decide_eq_false hxp
        rw [loopI_eq]
        simp only [mvP] at hat hat1
        simp [-St.get, -St.set, r97l1, b97l1, mvP, hne, hget, hl, hge0, hle, hlt, hlt0, hw, hw1, hw2, hw3, hat, hat1, hdec]
        have hlen : done.length + 1 + ((ddup x rest).length + 1) = done.length + ((ddup x rest).length + 1 + 1) := by omega
        simpa [ddup, he, Int.add_assoc, mvP, hlen] using hn
end Go.Am
end
section
set_option maxRecDepth 10000
set_option linter.unusedSimpArgs false
set_option linter.unusedVariables false
namespace Go.Am
open Go.Proofs Go.Sort Go.Shelf
theorem get_setS_top {r : Regs} {l : Objs} {o : Stack} {id : Id} {R : OB} {d : Nat} : St.get ⟨r, l, setS o id R⟩ (o.length, d) = getO l d := by simp [St.get, setS_len]
theorem set_setS_top {r : Regs} {l : Objs} {o : Stack} {id : Id} {R R' : OB} {d : Nat} : St.set ⟨r, l, setS o id R⟩ (o.length, d) R' = ⟨r, setO l d R', setS o id R⟩ := by simp [St.set, setS_len]
theorem eqCompact (id : Id) (l : List Mv) (o : Stack) (hid : id.1 < o.length) (hg : getS o id = some (.row 2 (l.map mvP))) (hN : l.length ≤ 4611686018427387904) :
    (dd l = l ∧ callI G 97 [.own id l.length] o = some (.own id l.length, o)) ∨ callI G 97 [.own id l.length] o = some (.sl true 2 ((dd l).map mvP), setS o id .dead) := by
  have hne : ¬ id.1 = o.length := by omega
  have hgl : ∀ r l R, St.get ⟨r, l, setS o id R⟩ (o.length, 59) = getO l 59 := fun r l R => by simp [St.get, setS_len]
  have hget : ∀ r l', St.get ⟨r, l', o⟩ id = some (.row 2 (l.map mvP)) := fun r l' => by rw [get_low hid, hg]
  rw [callI_eq]
  match l, hg, hN, hget with
  | [], hg, hN, hget =>
    refine .inl ⟨rfl, ?_⟩
    simp [-St.get, -St.set, body1_eq _ _ (gp 97) g97, c97, a97, hne, hget, hid]
  | [x], hg, hN, hget =>
    refine .inl ⟨rfl, ?_⟩
    simp [-St.get, -St.set, body1_eq _ _ (gp 97) g97, c97, a97, hne, hget, hid]
  | x :: y :: l, hg, hN, hget =>
    have h2 : ¬ ((l.length : Int) + 1 + 1 < 2) := by omega
    rcases loopCp1 id (x :: y :: l).length (y :: l) [] x o hid (by simpa using hg) (by simp; omega) hN with ⟨hd, hn⟩ | hn
    · refine .inl ⟨by simp [dd, hd], ?_⟩
      simp only [List.length_cons, List.length_nil, Int.natCast_add, show ((0 : Nat) : Int) = 0 from rfl, show ((1 : Nat) : Int) = 1 from rfl, Int.zero_add] at hn
      simp [-St.get, -St.set, body1_eq _ _ (gp 97) g97, c97, a97, hne, hget, hid, h2, hn]
    · refine .inr ?_
      simp only [List.length_cons, List.length_nil, Int.natCast_add, show ((0 : Nat) : Int) = 0 from rfl, show ((1 : Nat) : Int) = 1 from rfl, Int.zero_add, List.nil_append] at hn
      simp [-St.get, -St.set, body1_eq _ _ (gp 97) g97, c97, a97, hne, hget, hid, h2, hn, dd, setS_len, hgl]
theorem eqCompactN (o : Stack) : callI G 97 [.nils] o = some (.nils, o) := by
  rw [callI_eq]
  simp [-St.get, -St.set, body1_eq _ _ (gp 97) g97, c97, a97]
/-- What tidy makes. -/
def srtM (l : List Mv) : List Mv := l.mergeSort fun x y => !ltM y x
def tidyL (l : List Mv) : List Mv := dd (srtM l)
theorem eqTidy (id : Id) (l : List Mv) (o : Stack) (hid : id.1 < o.length) (hg : getS o id = some (.row 2 (l.map mvP))) (hN : l.length < 4611686018427387904) :
    (tidyL l = srtM l ∧ callI G 66 [.own id l.length] o = some (.own id l.length, setS o id (.row 2 ((tidyL l).map mvP)))) ∨ callI G 66 [.own id l.length] o = some (.sl true 2 ((tidyL l).map mvP), setS o id .dead) := by
  have hne : ¬ id.1 = o.length := by omega
  have hid2 : id.1 < (o ++ [[]]).length := by simp; omega
  have hS : sortP 89 ltM [.own id l.length, .clo 89 []] (o ++ [[]]) = some (.tup [], setS o id (.row 2 ((srtM l).map mvP)) ++ [[]]) := by
    simp [sortP, hN, getS_app _ _ _ hid, hg, unMs_map, setS_app _ _ _ _ hid]
    rfl
  have hsl : (srtM l).length = l.length := by simp [srtM]
  have hc := eqCompact id (srtM l) (setS o id (.row 2 ((srtM l).map mvP)) ++ [[]]) (by simp [setS_len]; omega) (by rw [getS_app _ _ _ (by rw [setS_len]; exact hid), getS_setS hid]) (by simp [srtM]; omega)
  rw [hsl, setS_app _ _ _ _ (by rw [setS_len]; exact hid), setS_setS] at hc
  rw [callI_eq]
  rcases hc with ⟨hd, hc⟩ | hc
  · refine .inl ⟨hd, ?_⟩
    rw [tidyL, hd]
    simp [-St.get, -St.set, body1_eq _ _ (gp 66) g66, c66, a66, hne, hid, eqSortM, hS, hc, setS_len]
  · refine .inr ?_
    simp [-St.get, -St.set, body1_eq _ _ (gp 66) g66, c66, a66, hne, hid, eqSortM, hS, hc, setS_len, tidyL, get_setS_top, set_setS_top]
theorem eqTidyN (o : Stack) : callI G 66 [.nils] o = some (.nils, o) := by
  have hS : sortP 89 ltM [.nils, .clo 89 []] [] = some (.tup [], []) := by simp [sortP]
  rw [callI_eq]
  simp [-St.get, -St.set, body1_eq _ _ (gp 66) g66, c66, a66, eqSortM, hS, eqCompactN]
end Go.Am
end
section
set_option maxRecDepth 10000
set_option linter.unusedSimpArgs false
set_option linter.unusedVariables false
namespace Go.Am
open Go.Proofs Go.Sort Go.Shelf
/-- A row of moves whose states stand k further on. -/
def shL (k : Int) (l : List Mv) : List Mv := l.map fun x => (x.1, x.2 + k)
@[simp] theorem shL_len (k : Int) (l : List Mv) : (shL k l).length = l.length := by simp [shL]
/-- A row that grows from nothing: its value and its block. -/
def owP (d : Nat) (l : List Mv) : PV := if l = [] then .nils else .own (0, d) l.length
def owL (d : Nat) (l : List Mv) : Objs := if l = [] then [] else [(d, .row 2 (l.map mvP))]
@[simp] theorem owP_n (d : Nat) : owP d [] = .nils := rfl
@[simp] theorem owL_n (d : Nat) : owL d [] = [] := rfl
@[simp] theorem owP_c (d : Nat) (x : Mv) (l : List Mv) : owP d (x :: l) = .own (0, d) (l.length + 1) := rfl
@[simp] theorem owL_c (d : Nat) (x : Mv) (l : List Mv) : owL d (x :: l) = [(d, .row 2 (mvP x :: l.map mvP))] := rfl
@[simp] theorem owP_s (d : Nat) (a : List Mv) (x : Mv) (l : List Mv) : owP d (a ++ x :: l) = .own (0, d) (a.length + (l.length + 1)) := by simp [owP]
@[simp] theorem owL_s (d : Nat) (a : List Mv) (x : Mv) (l : List Mv) : owL d (a ++ x :: l) = [(d, .row 2 (a.map mvP ++ mvP x :: l.map mvP))] := by simp [owL]
theorem wr1 : IntKind.i64.wrap 1 = 1 := by rfl
end Go.Am
end
section
set_option maxRecDepth 10000
set_option linter.unusedSimpArgs false
set_option linter.unusedVariables false
namespace Go.Am
open Go.Proofs Go.Sort Go.Shelf
/-! The states that one comes to. -/
def addNew : List Int → List Mv → List Int
  | row, [] => row
  | row, m :: l => addNew (if m.2 ∈ row then row else row ++ [m.2]) l
def bfs (g : Gr) : Nat → Nat → List Int → List Int
  | 0, _, row => row
  | f + 1, i, row => if i < row.length then bfs g f (i + 1) (addNew row (g.getD (row.getD i 0).toNat [])) else row
def reach (g : Gr) (s : Int) : List Int := bfs g (g.length + 1) 0 [s]
def InN (n : Nat) (row : List Int) : Prop := row.Nodup ∧ ∀ x ∈ row, 0 ≤ x ∧ x < n
def OkTo (g : Gr) : Prop := ∀ l ∈ g, ∀ m ∈ l, 0 ≤ m.2 ∧ m.2 < g.length
theorem nodup_le : ∀ (l m : List Nat), l.Nodup → (∀ x ∈ l, x ∈ m) → l.length ≤ m.length
  | [], m, _, _ => Nat.zero_le _
  | x :: l, m, hn, hs => by
    have hx := hs x List.mem_cons_self
    have h1 := List.nodup_cons.1 hn
    have := nodup_le l (m.erase x) h1.2 (fun y hy => (List.mem_erase_of_ne (fun e => h1.1 (by rw [← e]; exact hy))).2 (hs y (List.mem_cons_of_mem _ hy)))
    rw [List.length_erase_of_mem hx] at this
    have hm := List.length_pos_of_mem hx
    simp only [List.length_cons]; omega
theorem InN.len {n : Nat} {row : List Int} (h : InN n row) : row.length ≤ n := by
  have := nodup_le (row.map Int.toNat) (List.range n) (by
    unfold List.Nodup
    rw [List.pairwise_map]
    exact List.Pairwise.imp_of_mem (fun {a b} ha hb hab e => hab (by have := h.2 a ha; have := h.2 b hb; omega)) h.1) (fun x hx => by
    obtain ⟨y, hy, rfl⟩ := List.mem_map.1 hx
    have := h.2 y hy
    rw [List.mem_range]; omega)
  simpa using this
theorem InN.add {n : Nat} : ∀ {l : List Mv} {row : List Int}, InN n row → (∀ m ∈ l, 0 ≤ m.2 ∧ m.2 < n) → InN n (addNew row l)
  | [], row, h, _ => h
  | m :: l, row, h, hl => by
    simp only [addNew]
    refine InN.add ?_ (fun y hy => hl y (List.mem_cons_of_mem _ hy))
    split
    · exact h
    · rename_i hm
      refine ⟨List.nodup_append.2 ⟨h.1, by simp, fun a ha b hb e => hm ?_⟩, fun x hx => ?_⟩
      · rw [List.mem_singleton] at hb; subst hb; subst e; exact ha
      · rcases List.mem_append.1 hx with hx | hx
        · exact h.2 x hx
        · rw [List.mem_singleton] at hx; subst hx; exact hl m List.mem_cons_self
theorem addNew_len : ∀ (l : List Mv) (row : List Int), row.length ≤ (addNew row l).length
  | [], row => Nat.le_refl _
  | m :: l, row => by
    simp only [addNew]
    refine Nat.le_trans ?_ (addNew_len l _)
    split <;> simp
theorem OkTo.row {g : Gr} (h : OkTo g) (i : Nat) : ∀ m ∈ g.getD i [], 0 ≤ m.2 ∧ m.2 < g.length := by
  intro m hm
  by_cases hi : i < g.length
  · rw [List.getD_eq_getElem?_getD, List.getElem?_eq_getElem hi, Option.getD_some] at hm
    exact h _ (List.getElem_mem hi) m hm
  · rw [List.getD_eq_getElem?_getD, List.getElem?_eq_none (by omega)] at hm; cases hm
theorem InN.bfs {g : Gr} (hg : OkTo g) : ∀ (f i : Nat) {row : List Int}, InN g.length row → InN g.length (bfs g f i row)
  | 0, _, _, h => h
  | f + 1, i, row, h => by
    simp only [Am.bfs]
    split
    · exact InN.bfs hg f (i + 1) (h.add (hg.row _))
    · exact h
theorem InN.one {n : Nat} {s : Int} (h : 0 ≤ s ∧ s < n) : InN n [s] := ⟨by simp, fun x hx => by rw [List.mem_singleton] at hx; subst hx; exact h⟩
theorem gr_nth (nl u : Bool) (g : Gr) (i : Nat) (h : i < g.length) : nth (encGs nl u g) i = some (encL nl u (g.getD i [])) := by
  unfold nth encGs
  simp [List.getElem?_map, List.getElem?_eq_getElem h]
theorem int_nth (row : List Int) (i : Nat) (h : i < row.length) : nth (row.map PV.i) i = some (.i (row.getD i 0)) := by
  unfold nth
  simp [List.getElem?_map, List.getElem?_eq_getElem h]
theorem getD_mem {row : List Int} {i : Nat} (h : i < row.length) : row.getD i 0 ∈ row := by
  rw [List.getD_eq_getElem?_getD, List.getElem?_eq_getElem h, Option.getD_some]
  exact List.getElem_mem h
theorem encL_two (nl u : Bool) (l : List Mv) : (encL nl u l = .nils ∧ l = []) ∨ encL nl u l = .sl u 2 (l.map mvP) := by
  unfold encL
  split
  · rename_i h; simp only [Bool.and_eq_true, List.isEmpty_iff] at h; exact .inl ⟨rfl, h.2⟩
  · exact .inr rfl
/-- The rows of a graph, nil or not. -/
def EncR (u : Bool) (E : List PV) (g : Gr) : Prop := E.length = g.length ∧ ∀ i, i < g.length → ∃ nl, nth E i = some (encL nl u (g.getD i []))
theorem encR_G (nl u : Bool) (g : Gr) : EncR u (encGs nl u g) g := ⟨by simp, fun i h => ⟨nl, gr_nth nl u g i h⟩⟩
theorem EncR.app {u : Bool} {E F : List PV} {g h : Gr} (hE : EncR u E g) (hF : EncR u F h) : EncR u (E ++ F) (g ++ h) := by
  refine ⟨by simp [hE.1, hF.1], fun i hi => ?_⟩
  rw [List.length_append] at hi
  by_cases c : i < g.length
  · obtain ⟨nl, e⟩ := hE.2 i c
    refine ⟨nl, ?_⟩
    unfold nth at e ⊢
    rw [List.getElem?_append_left (by rw [hE.1]; exact c), e]
    simp [List.getD_eq_getElem?_getD, List.getElem?_append_left c]
  · obtain ⟨nl, e⟩ := hF.2 (i - g.length) (by omega)
    refine ⟨nl, ?_⟩
    unfold nth at e ⊢
    rw [List.getElem?_append_right (by rw [hE.1]; omega), hE.1, e]
    simp [List.getD_eq_getElem?_getD, List.getElem?_append_right (show g.length ≤ i by omega)]
theorem fals_map : ∀ E : List PV, fals E = E.map fal
  | [] => rfl
  | x :: E => by simp [fals, fals_map E]
theorem EncR.fal {u : Bool} {E : List PV} {g : Gr} (hE : EncR u E g) : EncR false (fals E) g := by
  refine ⟨by rw [fals_map]; simp [hE.1], fun i hi => ?_⟩
  obtain ⟨nl, e⟩ := hE.2 i hi
  refine ⟨nl, ?_⟩
  unfold nth at e ⊢
  rw [fals_map, List.getElem?_map, e, Option.map_some, fal_encL]
/-! impl.reached: what is seen is a map. -/
def seenM (row : List Int) : List (Key × PV) := row.map fun n => (.i n, .b true)
theorem lkp_seen (x : Int) : ∀ row : List Int, (lkp (.i x) (seenM row)).getD (.b false) = .b (decide (x ∈ row))
  | [] => rfl
  | y :: row => by
    have ih := lkp_seen x row
    simp only [seenM, List.map_cons, lkp, Key.i.injEq]
    by_cases h : y = x
    · simp [h]
    · have h2 : ¬ x = y := fun e => h e.symm
      simp only [seenM] at ih
      simp [h, ih, h2]
theorem ins_seen (x : Int) : ∀ row : List Int, x ∉ row → ins (.i x) (.b true) (seenM row) = seenM (row ++ [x])
  | [], _ => rfl
  | y :: row, h => by
    have hy : y ≠ x := fun e => h (e ▸ List.mem_cons_self)
    have ih := ins_seen x row (fun e => h (List.mem_cons_of_mem _ e))
    simp only [seenM, List.map_cons, ins, Key.i.injEq, hy, if_false, List.cons_append] at ih ⊢
    rw [ih]
theorem loopRe0 (nl : Bool) (E : List PV) (j : Int) : ∀ (rest done : List Mv) (row : List Int), (done ++ rest).length ≤ 4294967296 → row.length + rest.length ≤ 4294967296 →
    loopI G [2, 5, 6, 7, 28, 29, 30] [2, 11, 12, 46] c69l0 ⟨[(2, .ref (0, 2) 1 0 0), (5, .own (0, 11) row.length), (6, .mp (0, 12)), (7, .i j), (28, encL nl false (done ++ rest)), (29, .i (done ++ rest).length), (30, .i done.length)], [(2, .box [PV.sl false 1 (E)]), (11, .row 1 (row.map PV.i)), (12, .map false (seenM row))], []⟩ =
      some (.exit 2, ⟨[(2, .ref (0, 2) 1 0 0), (5, .own (0, 11) (addNew row rest).length), (6, .mp (0, 12)), (7, .i j), (28, encL nl false (done ++ rest)), (29, .i (done ++ rest).length), (30, .i (done ++ rest).length), (31, .b false)], [(2, .box [PV.sl false 1 (E)]), (11, .row 1 ((addNew row rest).map PV.i)), (12, .map false (seenM (addNew row rest)))], []⟩)
  | [], done, row, h, hr => by
    rw [loopI_eq]
    simp [r69l0, b69l0, addNew]
  | x :: rest, done, row, h, hr => by
    have hlt : (done.length : Int) < (done.length : Int) + ((rest.length : Int) + 1) := by omega
    have hw : IntKind.i64.wrap ((done.length : Int) + 1) = (done.length : Int) + 1 := wr (by simp at h; omega)
    have hrl : row.length ≤ 4294967295 := by simp at hr; omega
    have hat := mv_at done x rest
    have hlk := lkp_seen x.2 row
    have hen : encL nl false (done ++ x :: rest) = .sl false 2 ((done ++ x :: rest).map mvP) := encL_ne (by simp)
    have hn := fun row' hr' => loopRe0 nl E j rest (done ++ [x]) row' (by simpa using h) hr'
    have e1 : done ++ [x] ++ rest = done ++ x :: rest := by simp
    simp only [e1] at hn
    rw [hen] at hn ⊢
    rw [loopI_eq]
    simp only [mvP, List.map_append, List.map_cons] at hat
    by_cases hm : x.2 ∈ row
    · have hn := hn row (by simp at hr; omega)
      simp [r69l0, b69l0, hlt, hat, mvP, unAgg, hw, hrl, hlk, hm, addNew]
      simpa [mvP, Int.add_assoc] using hn
    · have hn := hn (row ++ [x.2]) (by simp at hr ⊢; omega)
      have hins := ins_seen x.2 row hm
      simp [r69l0, b69l0, hlt, hat, mvP, unAgg, hw, hrl, hlk, hm, addNew, hins]
      simpa [mvP, Int.add_assoc] using hn
theorem loopRe1 (E : List PV) (g : Gr) (hE : EncR false E g) (hg : OkTo g) (hs : SmallG g) : ∀ (f i : Nat) (row : List Int), InN g.length row → i ≤ row.length → g.length + 1 ≤ i + f →
    loopI G [2, 5, 6, 7] [2, 11, 12, 46] c69l1 ⟨[(2, .ref (0, 2) 1 0 0), (5, .own (0, 11) row.length), (6, .mp (0, 12)), (7, .i i)], [(2, .box [PV.sl false 1 (E)]), (11, .row 1 (row.map PV.i)), (12, .map false (seenM row))], []⟩ =
      some (.exit 0, ⟨[(2, .ref (0, 2) 1 0 0), (5, .own (0, 11) (bfs g f i row).length), (6, .mp (0, 12)), (7, .i (bfs g f i row).length), (18, .b false)], [(2, .box [PV.sl false 1 (E)]), (11, .row 1 ((bfs g f i row).map PV.i)), (12, .map false (seenM (bfs g f i row)))], []⟩)
  | 0, i, row, hr, hi, hf => by have := hr.len; omega
  | f + 1, i, row, hr, hi, hf => by
    have hl := hr.len
    have hgl := hs.1
    by_cases h : i < row.length
    · have hlt : (i : Int) < row.length := by omega
      have hx := hr.2 _ (getD_mem h)
      have hat := int_nth row i h
      generalize hxe : row.getD i 0 = x at hx hat
      have hxl : x < g.length := hx.2
      have hxn : x.toNat < g.length := by omega
      obtain ⟨nl, hat2⟩ := hE.2 x.toNat hxn
      have hEl := hE.1
      have hrow : ∀ m ∈ g.getD x.toNat [], 0 ≤ m.2 ∧ m.2 < g.length := hg.row _
      have hrl : (g.getD x.toNat []).length ≤ 1048576 := hs.2 _ (by rw [List.getD_eq_getElem?_getD, List.getElem?_eq_getElem hxn, Option.getD_some]; exact List.getElem_mem hxn)
      have hb : bfs g (f + 1) i row = bfs g f (i + 1) (addNew row (g.getD x.toNat [])) := by simp [bfs, h, ← hxe]
      rw [hb]
      generalize hL : g.getD x.toNat [] = L at hat2 hrow hrl
      have h0 := loopRe0 nl E i L [] row (by simp; omega) (by omega)
      simp only [List.nil_append, List.length_nil, show ((0 : Nat) : Int) = 0 from rfl] at h0
      have hn := loopRe1 E g hE hg hs f (i + 1) (addNew row L) (hr.add hrow) (by have := addNew_len L row; omega) (by omega)
      have hw : IntKind.i64.wrap ((i : Int) + 1) = (i : Int) + 1 := wr (by omega)
      rw [loopI_eq]
      rcases encL_two nl false L with ⟨e, e2⟩ | e
      · rw [e] at hat2 h0
        subst e2
        simp only [List.length_nil, show ((0 : Nat) : Int) = 0 from rfl] at h0
        simp [r69l1, b69l1, h, hlt, hat, hat2, hx.1, hxl, h0, hw, hEl]
        simpa using hn
      · rw [e] at hat2 h0
        simp [r69l1, b69l1, h, hlt, hat, hat2, hx.1, hxl, h0, hw, hEl]
        simpa using hn
    · have he : i = row.length := by omega
      have hb : bfs g (f + 1) i row = row := by simp [bfs, h]
      rw [hb, loopI_eq]
      subst he
      simp [r69l1, b69l1]
theorem eqReached (E : List PV) (g : Gr) (hE : EncR false E g) (hg : OkTo g) (hs : SmallG g) (s : Int) (h : 0 ≤ s ∧ s < g.length) :
    callI G 69 [.agg [.sl false 1 (E)], .i s] [] = some (.sl true 1 ((reach g s).map PV.i), []) := by
  have hl := loopRe1 E g hE hg hs (g.length + 1) 0 [s] (InN.one h) (by simp) (by omega)
  have hsm : seenM [s] = [(.i s, .b true)] := rfl
  simp only [show ((0 : Nat) : Int) = 0 from rfl, List.length_cons, List.length_nil, List.map_cons, List.map_nil, hsm] at hl
  rw [callI_eq]
  have hi : ins (.i s) (.b true) [] = [(.i s, .b true)] := rfl
  simp [body1_eq _ _ (gp 69) g69, c69, a69, hl, hi, reach]
end Go.Am
end
section
set_option maxRecDepth 10000
set_option linter.unusedSimpArgs false
set_option linter.unusedVariables false
namespace Go.Am
open Go.Proofs Go.Sort Go.Shelf
/-! The part of a graph: states numbered in the order in which they come. -/
def atG : Nat → List Int → Int → Int
  | _, [], _ => 0
  | i, y :: l, x => if y = x then i else atG (i + 1) l x
def atOf (row : List Int) (x : Int) : Int := atG 0 row x
def atM : Nat → List Int → List (Key × PV)
  | _, [] => []
  | i, x :: l => (.i x, .i i) :: atM (i + 1) l
theorem lkp_at (x : Int) : ∀ (row : List Int) (i : Nat), (lkp (.i x) (atM i row)).getD (.i 0) = .i (atG i row x)
  | [], _ => rfl
  | y :: row, i => by
    simp only [atM, lkp, atG, Key.i.injEq]
    by_cases h : y = x
    · simp [h]
    · simp [h, lkp_at x row (i + 1)]
theorem ins_at (x : Int) : ∀ (row : List Int) (i n : Nat), n = i + row.length → x ∉ row → ins (.i x) (.i n) (atM i row) = atM i (row ++ [x])
  | [], i, n, hn, _ => by subst hn; rfl
  | y :: row, i, n, hn, h => by
    have hy : y ≠ x := fun e => h (by rw [e]; exact List.mem_cons_self)
    have ih := ins_at x row (i + 1) n (by simp at hn; omega) (fun e => h (List.mem_cons_of_mem _ e))
    simp only [atM, ins, Key.i.injEq, hy, if_false, List.cons_append, ih]
/-- Moves with the new numbers. -/
def reT (row : List Int) (l : List Mv) : List Mv := l.map fun m => (m.1, atOf row m.2)
@[simp] theorem reT_len (row : List Int) (l : List Mv) : (reT row l).length = l.length := by simp [reT]
def partG (g : Gr) (s : Int) : Gr := (reach g s).map fun r => tidyL (reT (reach g s) (g.getD r.toNat []))
def made (g : Gr) : Gr × Bool := if (reach g 0).length ≤ 60 then (partG g 0, true) else ([], false)
theorem addNew_pre : ∀ (l : List Mv) (row : List Int), ∃ t, addNew row l = row ++ t
  | [], row => ⟨[], by simp [addNew]⟩
  | m :: l, row => by
    simp only [addNew]
    split
    · exact addNew_pre l row
    · obtain ⟨t, ht⟩ := addNew_pre l (row ++ [m.2])
      exact ⟨m.2 :: t, by rw [ht]; simp⟩
/-! impl.partOf -/
theorem loopPt0 (A : PV) (hA : ∀ f n, known f n A = true) (N : Nat) (hN : N ≤ 4294967296) : ∀ (rest done : List Int), (done ++ rest).Nodup → (done ++ rest).length = N →
    loopI G [0, 4, 6, 7, 25, 26, 27] [4, 19, 24, 69] c59l0 ⟨[(0, A), (4, .ref (0, 4) 1 0 0), (6, .own (0, 19) N), (7, .mp (0, 24)), (25, .own (0, 19) N), (26, .i N), (27, .i done.length)], [(4, .box [.nils]), (19, .row 1 ((done ++ rest).map PV.i)), (24, .map false (atM 0 done))], []⟩ =
      some (.exit 0, ⟨[(0, A), (4, .ref (0, 4) 1 0 0), (6, .own (0, 19) N), (7, .mp (0, 24)), (25, .own (0, 19) N), (26, .i N), (27, .i N), (28, .b false)], [(4, .box [.nils]), (19, .row 1 ((done ++ rest).map PV.i)), (24, .map false (atM 0 (done ++ rest)))], []⟩)
  | [], done, hd, h => by
    simp only [List.append_nil] at h ⊢
    rw [h, loopI_eq]
    simp [r59l0, b59l0, hA, h]
  | x :: rest, done, hd, h => by
    have hlt : (done.length : Int) < N := by simp at h; omega
    have hlt2 : done.length < N := by omega
    have hw : IntKind.i64.wrap ((done.length : Int) + 1) = (done.length : Int) + 1 := wr (by omega)
    have hat : nth ((done ++ x :: rest).map PV.i) done.length = some (.i x) := by rw [List.map_append, List.map_cons]; exact at_D _ _ _ _ (by simp)
    have hx : x ∉ done := fun hm => (List.nodup_append.1 hd).2.2 x hm x List.mem_cons_self rfl
    have hins := ins_at x done 0 done.length (by omega) hx
    have hn := loopPt0 A hA N hN rest (done ++ [x]) (by simpa using hd) (by simpa using h)
    have e1 : done ++ [x] ++ rest = done ++ x :: rest := by simp
    rw [e1] at hn
    have hl2 : ((done ++ x :: rest).map PV.i).length = N := by simpa using h
    generalize hR : (done ++ x :: rest).map PV.i = R at hat hn hl2 ⊢
    rw [loopI_eq]
    simp [r59l0, b59l0, hA, hlt, hlt2, hl2, hw, hat, hins]
    simpa using hn
/-- A value and its block: a slice that may be there already. -/
def OwnS (d k : Nat) (Y : PV) (L : Objs) (xs : List PV) : Prop := (xs = [] ∧ Y = .nils ∧ L = []) ∨ (xs ≠ [] ∧ Y = .own (0, d) xs.length ∧ L = [(d, .row k xs)])
theorem loopPt1 (nl : Bool) (A Y R : PV) (hA : ∀ f n, known f n A = true) (YL : Objs) (xs rs : List PV) (hY : OwnS 69 1 Y YL xs) (row : List Int) (j : Int) : ∀ (rest done : List Mv), (done ++ rest).length ≤ 4294967296 →
    loopI G [0, 4, 7, 10, 13, 37, 38, 39, 47, 48, 49] [4, 10, 19, 24, 43, 62, 69] c59l1 ⟨[(0, A), (4, .ref (0, 4) 1 0 0), (7, .mp (0, 24)), (10, .ref (0, 10) 1 0 0), (13, owP 62 (reT row done)), (37, .own (0, 19) row.length), (38, .i row.length), (39, .i j), (47, encL nl false (done ++ rest)), (48, .i (done ++ rest).length), (49, .i done.length)], (4, .box [.nils]) :: (10, .box [Y]) :: (19, .row 1 (row.map PV.i)) :: (24, .map false (atM 0 row)) :: (owL 62 (reT row done) ++ YL), []⟩ =
      some (.exit 4, ⟨[(0, A), (4, .ref (0, 4) 1 0 0), (7, .mp (0, 24)), (10, .ref (0, 10) 1 0 0), (13, owP 62 (reT row (done ++ rest))), (37, .own (0, 19) row.length), (38, .i row.length), (39, .i j), (47, encL nl false (done ++ rest)), (48, .i (done ++ rest).length), (49, .i (done ++ rest).length), (50, .b false)], (4, .box [.nils]) :: (10, .box [Y]) :: (19, .row 1 (row.map PV.i)) :: (24, .map false (atM 0 row)) :: (owL 62 (reT row (done ++ rest)) ++ YL), []⟩)
  | [], done, h => by
    rw [loopI_eq]
    rcases hY with ⟨rfl, rfl, rfl⟩ | ⟨hxs, rfl, rfl⟩
    · by_cases hd : done = []
      · subst hd
        simp [r59l1, b59l1, hA, reT]
      · have hp : owP 62 (reT row done) = .own (0, 62) done.length := by simp [owP, reT, hd]
        have ho : owL 62 (reT row done) = [(62, .row 2 ((reT row done).map mvP))] := by simp [owL, reT, hd]
        simp [r59l1, b59l1, hA, hp, ho]
    · by_cases hd : done = []
      · subst hd
        simp [r59l1, b59l1, hA, reT]
      · have hp : owP 62 (reT row done) = .own (0, 62) done.length := by simp [owP, reT, hd]
        have ho : owL 62 (reT row done) = [(62, .row 2 ((reT row done).map mvP))] := by simp [owL, reT, hd]
        simp [r59l1, b59l1, hA, hp, ho]
  | x :: rest, done, h => by
    have hlt : (done.length : Int) < (done.length : Int) + ((rest.length : Int) + 1) := by omega
    have hw : IntKind.i64.wrap ((done.length : Int) + 1) = (done.length : Int) + 1 := wr (by simp at h; omega)
    have hdl : done.length ≤ 4294967295 := by simp at h; omega
    have hat := mv_at done x rest
    have hlk := lkp_at x.2 row 0
    have hn := loopPt1 nl A Y R hA YL xs rs hY row j rest (done ++ [x]) (by simpa using h)
    have hen : encL nl false (done ++ x :: rest) = .sl false 2 ((done ++ x :: rest).map mvP) := encL_ne (by simp)
    have e1 : done ++ [x] ++ rest = done ++ x :: rest := by simp
    rw [e1] at hn
    rw [hen] at hn ⊢
    rw [loopI_eq]
    simp only [mvP, List.map_append, List.map_cons] at hat
    rcases hY with ⟨rfl, rfl, rfl⟩ | ⟨hxs, rfl, rfl⟩
    · by_cases hd : done = []
      · subst hd
        simp at hat hn
        simp [r59l1, b59l1, hlt, hat, mvP, unAgg, hw, hdl, reT, wr1, hA, hlk]
        simpa [reT, mvP, Int.add_assoc, atOf] using hn
      · have hp : owP 62 (reT row done) = .own (0, 62) done.length := by simp [owP, reT, hd]
        have ho : owL 62 (reT row done) = [(62, .row 2 ((reT row done).map mvP))] := by simp [owL, reT, hd]
        rw [hp, ho]
        simp [r59l1, b59l1, hlt, hat, mvP, unAgg, hw, hdl, hA, hlk]
        simpa [reT, mvP, Int.add_assoc, atOf] using hn
    · by_cases hd : done = []
      · subst hd
        simp at hat hn
        simp [r59l1, b59l1, hlt, hat, mvP, unAgg, hw, hdl, reT, wr1, hA, hlk]
        simpa [reT, mvP, Int.add_assoc, atOf] using hn
      · have hp : owP 62 (reT row done) = .own (0, 62) done.length := by simp [owP, reT, hd]
        have ho : owL 62 (reT row done) = [(62, .row 2 ((reT row done).map mvP))] := by simp [owL, reT, hd]
        rw [hp, ho]
        simp [r59l1, b59l1, hlt, hat, mvP, unAgg, hw, hdl, hA, hlk]
        simpa [reT, mvP, Int.add_assoc, atOf] using hn
end Go.Am
end
section
set_option maxRecDepth 10000
set_option maxHeartbeats 1000000
set_option linter.unusedSimpArgs false
set_option linter.unusedVariables false
namespace Go.Am
open Go.Proofs Go.Sort Go.Shelf
theorem tidyL_n : tidyL [] = [] := by simp [tidyL, srtM, dd]
theorem tidyL_ne {l : List Mv} (h : l ≠ []) : tidyL l ≠ [] := by
  unfold tidyL
  cases hs : srtM l with
  | nil =>
    have : (srtM l).length = l.length := by simp [srtM]
    rw [hs] at this
    exact absurd (List.length_eq_zero_iff.1 this.symm) h
  | cons x m => simp [dd]
def ptR (g : Gr) (row : List Int) (r : Int) : List Mv := tidyL (reT row (g.getD r.toNat []))
theorem loopPt2 (E : List PV) (g : Gr) (hE : EncR false E g) (hs : SmallG g) (row : List Int) (hrow : InN g.length row) : ∀ (rest done : List Int), row = done ++ rest → ∀ Y YL, OwnS 69 1 Y YL (encGs true true (done.map (ptR g row))) →
    ∃ Y' YL', OwnS 69 1 Y' YL' (encGs true true (row.map (ptR g row))) ∧
    loopI G [0, 4, 7, 10, 37, 38, 39] [4, 10, 19, 24, 69] c59l2 ⟨[(0, .sl false 1 (E)), (4, .ref (0, 4) 1 0 0), (7, .mp (0, 24)), (10, .ref (0, 10) 1 0 0), (37, .own (0, 19) row.length), (38, .i row.length), (39, .i done.length)], (4, .box [.nils]) :: (10, .box [Y]) :: (19, .row 1 (row.map PV.i)) :: (24, .map false (atM 0 row)) :: YL, []⟩ =
      some (.exit 2, ⟨[(0, .sl false 1 (E)), (4, .ref (0, 4) 1 0 0), (7, .mp (0, 24)), (10, .ref (0, 10) 1 0 0), (37, .own (0, 19) row.length), (38, .i row.length), (39, .i row.length), (40, .b false)], (4, .box [.nils]) :: (10, .box [Y']) :: (19, .row 1 (row.map PV.i)) :: (24, .map false (atM 0 row)) :: YL', []⟩)
  | [], done, hd, Y, YL, hY => by
    rw [List.append_nil] at hd
    subst hd
    refine ⟨Y, YL, hY, ?_⟩
    rw [loopI_eq]
    rcases hY with ⟨h1, rfl, rfl⟩ | ⟨h1, rfl, rfl⟩
    · simp [r59l2, b59l2]
    · simp [r59l2, b59l2]
  | x :: rest, done, hd, Y, YL, hY => by
    have hl := hrow.len
    have hgl := hs.1
    have hrl : row.length = done.length + (rest.length + 1) := by rw [hd]; simp
    have hlt : (done.length : Int) < row.length := by omega
    have hlt2 : done.length < row.length := by omega
    have hw : IntKind.i64.wrap ((done.length : Int) + 1) = (done.length : Int) + 1 := wr (by omega)
    have hx := hrow.2 x (by rw [hd]; simp)
    have hat : nth (row.map PV.i) done.length = some (.i x) := by rw [hd, List.map_append, List.map_cons]; exact at_D _ _ _ _ (by simp)
    have hxl : x < g.length := hx.2
    have hxn : x.toNat < g.length := by omega
    obtain ⟨nl, hat2⟩ := hE.2 x.toNat hxn
    have hEl := hE.1
    have hLl : (g.getD x.toNat []).length ≤ 1048576 := hs.2 _ (by rw [List.getD_eq_getElem?_getD, List.getElem?_eq_getElem hxn, Option.getD_some]; exact List.getElem_mem hxn)
    have hpt : ptR g row x = tidyL (reT row (g.getD x.toNat [])) := rfl
    have hYl : (encGs true true (done.map (ptR g row))).length = done.length := by simp
    have hdl : done.length ≤ 4294967295 := by omega
    generalize hL : g.getD x.toNat [] = L at hat2 hLl hpt
    have h0 := loopPt1 nl (.sl false 1 (E)) Y .nils (by intro f n; simp) YL _ [] hY row done.length L [] (by simp; omega)
    simp only [List.nil_append, List.length_nil, show ((0 : Nat) : Int) = 0 from rfl, show reT row [] = [] from rfl, owP_n, owL_n] at h0
    have hnew : encGs true true ((done ++ [x]).map (ptR g row)) = encGs true true (done.map (ptR g row)) ++ [encL true true (ptR g row x)] := by simp [encGs]
    have hnn : encGs true true ((done ++ [x]).map (ptR g row)) ≠ [] := by rw [hnew]; simp
    have hYn : OwnS 69 1 (.own (0, 69) (done.length + 1)) [(69, .row 1 (encGs true true (done.map (ptR g row)) ++ [encL true true (ptR g row x)]))] (encGs true true ((done ++ [x]).map (ptR g row))) := by
      refine .inr ⟨hnn, ?_, ?_⟩
      · rw [hnew]; simp
      · rw [hnew]
    obtain ⟨Y', YL', hY', hn⟩ := loopPt2 E g hE hs row hrow rest (done ++ [x]) (by simpa using hd) _ _ hYn
    refine ⟨Y', YL', hY', ?_⟩
    simp only [List.length_append, List.length_cons, List.length_nil, Int.natCast_add, show ((0 + 1 : Nat) : Int) = 1 from rfl] at hn
    clear hY'
    rw [loopI_eq]
    by_cases hLe : L = []
    · subst hLe
      have hr0 : reT row [] = [] := rfl
      rw [hr0, tidyL_n] at hpt
      rw [hpt] at hn
      have htN := eqTidyN []
      have e1 : encL nl false [] = .nils ∨ encL nl false [] = .sl false 2 [] := by cases nl <;> simp [encL]
      rcases hY with ⟨h1, rfl, rfl⟩ | ⟨h1, rfl, rfl⟩
      · have hd0 : done = [] := by cases done with | nil => rfl | cons a b => simp [encGs] at h1
        subst hd0
        have hlt0 : 0 < row.length := by omega
        rcases e1 with e | e
        all_goals
          rw [e] at hat2 h0
          simp [hr0] at h0 hn hat
          simp [r59l2, b59l2, hlt, hlt2, hw, hat, hat2, hx.1, hxl, hEl, h0, htN, wr1, hlt0]
          simpa [encGs] using hn
      · rcases e1 with e | e
        all_goals
          rw [e] at hat2 h0
          simp [hr0] at h0 hn
          simp [r59l2, b59l2, hlt, hlt2, hw, hat, hat2, hx.1, hxl, hEl, h0, htN, hdl]
          simpa [encGs] using hn
    · have hen : encL nl false L = .sl false 2 (L.map mvP) := encL_ne hLe
      have hp : owP 62 (reT row L) = .own (0, 62) L.length := by simp [owP, reT, hLe]
      have ho : owL 62 (reT row L) = [(62, .row 2 ((reT row L).map mvP))] := by simp [owL, reT, hLe]
      have hlt3 : encL true true (ptR g row x) = .sl true 2 ((tidyL (reT row L)).map mvP) := by rw [hpt]; exact encL_ne (tidyL_ne (by simp [reT, hLe]))
      rw [hlt3] at hn
      rw [hen] at hat2 h0
      rw [hp, ho] at h0
      rcases hY with ⟨h1, rfl, rfl⟩ | ⟨h1, rfl, rfl⟩
      · have hd0 : done = [] := by cases done with | nil => rfl | cons a b => simp [encGs] at h1
        subst hd0
        have hlt0 : 0 < row.length := by omega
        have ht := eqTidy (0, 62) (reT row L) [[(4, .box [.nils]), (10, .box [.nils]), (19, .row 1 (row.map PV.i)), (24, .map false (atM 0 row)), (62, .row 2 ((reT row L).map mvP))]] (by simp) (by simp [getS, getO]) (by simp; omega)
        simp [setS, setO] at ht
        simp at h0 hn hat
        rcases ht with ⟨hts, ht⟩ | ht
        · have hTl : (tidyL (reT row L)).length = L.length := by rw [hts]; simp [srtM]
          simp [r59l2, b59l2, hlt, hlt2, hw, hat, hat2, hx.1, hxl, hEl, h0, ht, wr1, hlt0, hTl]
          simpa [encGs] using hn
        · simp [r59l2, b59l2, hlt, hlt2, hw, hat, hat2, hx.1, hxl, hEl, h0, ht, wr1, hlt0]
          simpa [encGs] using hn
      · have ht := eqTidy (0, 62) (reT row L) [[(4, .box [.nils]), (10, .box [.own (0, 69) (encGs true true (done.map (ptR g row))).length]), (19, .row 1 (row.map PV.i)), (24, .map false (atM 0 row)), (62, .row 2 ((reT row L).map mvP)), (69, .row 1 (encGs true true (done.map (ptR g row))))]] (by simp) (by simp [getS, getO]) (by simp; omega)
        simp [setS, setO] at ht
        simp at h0 hn
        rcases ht with ⟨hts, ht⟩ | ht
        · have hTl : (tidyL (reT row L)).length = L.length := by rw [hts]; simp [srtM]
          simp [r59l2, b59l2, hlt, hlt2, hw, hat, hat2, hx.1, hxl, hEl, h0, ht, hdl, hTl]
          simpa [encGs] using hn
        · simp [r59l2, b59l2, hlt, hlt2, hw, hat, hat2, hx.1, hxl, hEl, h0, ht, hdl]
          simpa [encGs] using hn
theorem bfs_len (g : Gr) : ∀ (f i : Nat) (row : List Int), row.length ≤ (bfs g f i row).length
  | 0, _, row => Nat.le_refl _
  | f + 1, i, row => by
    simp only [bfs]
    split
    · exact Nat.le_trans (addNew_len _ row) (bfs_len g f (i + 1) _)
    · exact Nat.le_refl _
/-- What partOf and the specification's l12Made make. -/
theorem eqPartOf (E : List PV) (g : Gr) (hE : EncR false E g) (hg : OkTo g) (hs : SmallG g) (h : 0 < g.length) :
    callI G 59 [.sl false 1 (E), .i 0] [] = some (.tup [encG true true (made g).1, .b (made g).2], []) := by
  have h1 := eqReached E g hE hg hs 0 (by omega)
  have hr : InN g.length (reach g 0) := InN.bfs hg _ _ (InN.one (by omega))
  have hl := hr.len
  have hgl := hs.1
  have hbl := bfs_len g (g.length + 1) 0 [0]
  unfold made
  have hpg : partG g 0 = (reach g 0).map (ptR g (reach g 0)) := rfl
  rw [hpg]
  have hrl : 1 ≤ (reach g 0).length := by unfold reach; simpa using hbl
  generalize hR : reach g 0 = row at h1 hr hl
  rw [hR] at hrl
  have hne : row ≠ [] := by intro e; rw [e] at hrl; cases hrl
  rw [callI_eq]
  by_cases hc : row.length ≤ 60
  · have hc2 : ¬ (60 : Int) < row.length := by omega
    have l0 := loopPt0 (.sl false 1 (E)) (by intro f n; simp) row.length (by omega) row [] hr.1 rfl
    obtain ⟨Y, YL, hY, l2⟩ := loopPt2 E g hE hs row hr row [] rfl .nils [] (.inl ⟨rfl, rfl, rfl⟩)
    simp only [List.nil_append, List.length_nil, show ((0 : Nat) : Int) = 0 from rfl, show atM 0 [] = [] from rfl] at l0 l2
    have hne2 : encGs true true (row.map (ptR g row)) ≠ [] := by simp [encGs, hne]
    rcases hY with ⟨q, _⟩ | ⟨_, rfl, rfl⟩
    · exact absurd q hne2
    · have he : encG true true (row.map (ptR g row)) = .agg [.sl true 1 (encGs true true (row.map (ptR g row)))] := by simp [encG, encM', hne]
      simp only [hc, if_true, he]
      simp [body1_eq _ _ (gp 59) g59, c59, a59, h1, hc, hc2, l0, l2]
  · have hc2 : (60 : Int) < row.length := by omega
    simp [body1_eq _ _ (gp 59) g59, c59, a59, h1, hc, hc2]
end Go.Am
end
section
set_option maxRecDepth 10000
set_option maxHeartbeats 1000000
set_option linter.unusedSimpArgs false
set_option linter.unusedVariables false
namespace Go.Am
open Go.Proofs Go.Sort Go.Shelf
theorem rowOk_mem {n : Nat} : ∀ {l : List Mv} {p : Option Mv}, rowOk n p l = true → ∀ m ∈ l, mvOk n m = true
  | [], _, _, m, hm => by cases hm
  | x :: l, p, h, m, hm => by
    simp only [rowOk, Bool.and_eq_true] at h
    rcases List.mem_cons.1 hm with rfl | hm
    · exact h.1
    · exact rowOk_mem h.2.2 m hm
theorem grOk_to {g : Gr} (h : grOk g = true) : OkTo g ∧ 1 ≤ g.length ∧ g.length ≤ 60 := by
  simp only [grOk, Bool.and_eq_true, decide_eq_true_eq, List.all_eq_true] at h
  refine ⟨fun l hl m hm => ?_, h.1, h.2.1⟩
  have := rowOk_mem (h.2.2 l hl) m hm
  simp only [mvOk, Bool.and_eq_true, decide_eq_true_eq] at this
  exact this.2
theorem noShares_mv : ∀ l : List Mv, noShares (l.map mvP) = true
  | [] => rfl
  | x :: l => by simp [noShares, noShare, mvP]; exact noShares_mv l
theorem noShare_encL (nl : Bool) (l : List Mv) : noShare (encL nl true l) = true := by
  rcases encL_two nl true l with ⟨e, _⟩ | e <;> simp [e, noShare, noShares_mv]
theorem noShares_encGs (nl : Bool) : ∀ g : Gr, noShares (encGs nl true g) = true
  | [] => rfl
  | x :: g => by
    have := noShares_encGs nl g
    simp only [encGs, List.map_cons, noShares] at this ⊢
    simp [this, noShare_encL]
theorem encM_two (nl u : Bool) (g : Gr) : (encM' nl u g = .nils ∧ g = []) ∨ encM' nl u g = .sl u 1 (encGs nl u g) := by
  unfold encM'
  split
  · rename_i h; simp only [Bool.and_eq_true, List.isEmpty_iff] at h; exact .inl ⟨rfl, h.2⟩
  · exact .inr rfl
/-! impl.GraphAct -/
end Go.Am
end
section
set_option maxRecDepth 10000
set_option maxHeartbeats 1000000
set_option linter.unusedSimpArgs false
set_option linter.unusedVariables false
namespace Go.Am
open Go.Proofs Go.Sort Go.Shelf
end Go.Am
end
section
set_option maxRecDepth 10000
set_option maxHeartbeats 1000000
set_option linter.unusedSimpArgs false
set_option linter.unusedVariables false
namespace Go.Am
open Go.Proofs Go.Sort Go.Shelf
end Go.Am
end
section
set_option maxRecDepth 10000
set_option maxHeartbeats 1000000
set_option linter.unusedSimpArgs false
set_option linter.unusedVariables false
namespace Go.Am
open Go.Proofs Go.Sort Go.Shelf
/-! spec.l3From: what is seen is a slice. -/
def seenS (n : Nat) (row : List Int) : List PV := (List.range n).map fun k : Nat => PV.b (decide ((k : Int) ∈ row))
@[simp] theorem seenS_len (n : Nat) (row : List Int) : (seenS n row).length = n := by simp [seenS]
theorem seenS_nth {n : Nat} {row : List Int} {x : Int} (h : 0 ≤ x ∧ x < n) : nth (seenS n row) x.toNat = some (.b (decide (x ∈ row))) := by
  unfold nth seenS
  have h1 : x.toNat < n := by omega
  have h2 : ((x.toNat : Nat) : Int) = x := by omega
  simp [h1, h2]
theorem seenS_set {n : Nat} {row : List Int} {x : Int} (h : 0 ≤ x ∧ x < n) : (seenS n row).set x.toNat (.b true) = seenS n (row ++ [x]) := by
  apply List.ext_getElem (by simp)
  intro i h1 h2
  simp only [seenS_len, List.length_set] at h1 h2
  simp only [seenS, List.getElem_set, List.getElem_map, List.getElem_range, List.mem_append, List.mem_singleton]
  by_cases c : x.toNat = i
  · have : (i : Int) = x := by omega
    simp [c, this]
  · have : ¬ (i : Int) = x := by omega
    simp [c, this]
theorem seenS_n (n : Nat) : List.replicate n (PV.b false) = seenS n [] := by
  apply List.ext_getElem (by simp)
  intro i h1 h2
  simp [seenS]
theorem loopFr0 (E : List PV) (j : Int) (n : Nat) : ∀ (rest done : List Mv) (row : List Int), (∀ m ∈ rest, 0 ≤ m.2 ∧ m.2 < n) → (done ++ rest).length ≤ 4294967296 → row.length + rest.length ≤ 4294967296 → ∀ nl,
    loopI G [2, 5, 6, 7, 8, 9] [2, 11, 15, 62] c104l0 ⟨[(2, .ref (0, 2) 1 0 0), (5, .own (0, 11) row.length), (6, .own (0, 15) n), (7, .i j), (8, encL nl false (done ++ rest)), (9, .i done.length)], [(2, .box [PV.sl false 1 E]), (11, .row 1 (row.map PV.i)), (15, .row 1 (seenS n row))], []⟩ =
      some (.exit 2, ⟨[(2, .ref (0, 2) 1 0 0), (5, .own (0, 11) (addNew row rest).length), (6, .own (0, 15) n), (7, .i j), (8, encL nl false (done ++ rest)), (9, .i (done ++ rest).length), (36, .b false)], [(2, .box [PV.sl false 1 E]), (11, .row 1 ((addNew row rest).map PV.i)), (15, .row 1 (seenS n (addNew row rest)))], []⟩)
  | [], done, row, hm, h, hr, nl => by
    rw [List.append_nil] at h ⊢
    rw [loopI_eq]
    rcases encL_two nl false done with ⟨e, e2⟩ | e
    · rw [e]; subst e2
      simp [r104l0, b104l0, addNew]
    · rw [e]
      simp [r104l0, b104l0, addNew]
  | x :: rest, done, row, hm, h, hr, nl => by
    have hx := hm x List.mem_cons_self
    have hlt : (done.length : Int) < (done.length : Int) + ((rest.length : Int) + 1) := by omega
    have hw : IntKind.i64.wrap ((done.length : Int) + 1) = (done.length : Int) + 1 := wr (by simp at h; omega)
    have hrl : row.length ≤ 4294967295 := by simp at hr; omega
    have hat := mv_at done x rest
    have hsn := seenS_nth (row := row) hx
    have hss := seenS_set (row := row) hx
    have hen : encL nl false (done ++ x :: rest) = .sl false 2 ((done ++ x :: rest).map mvP) := encL_ne (by simp)
    have hn := fun row' hr' => loopFr0 E j n rest (done ++ [x]) row' (fun y hy => hm y (List.mem_cons_of_mem _ hy)) (by simpa using h) hr' nl
    have e1 : done ++ [x] ++ rest = done ++ x :: rest := by simp
    simp only [e1] at hn
    rw [hen] at hn ⊢
    rw [loopI_eq]
    simp only [mvP, List.map_append, List.map_cons] at hat
    by_cases hmm : x.2 ∈ row
    · have hn := hn row (by simp at hr; omega)
      simp only [hmm, decide_true] at hsn
      simp [r104l0, b104l0, hlt, hat, mvP, unAgg, hw, hrl, hsn, hx.1, hx.2, hmm, addNew]
      simpa [mvP, Int.add_assoc] using hn
    · have hn := hn (row ++ [x.2]) (by simp at hr ⊢; omega)
      simp only [hmm, decide_false] at hsn
      simp [r104l0, b104l0, hlt, hat, mvP, unAgg, hw, hrl, hsn, hss, hx.1, hx.2, hmm, addNew]
      simpa [mvP, Int.add_assoc] using hn
theorem loopFr1 (E : List PV) (g : Gr) (hE : EncR false E g) (hg : OkTo g) (hs : SmallG g) : ∀ (f i : Nat) (row : List Int), InN g.length row → i ≤ row.length → g.length + 1 ≤ i + f →
    ∀ x8 x9, loopI G [2, 5, 6, 7] [2, 11, 15, 62] c104l1 ⟨(2, .ref (0, 2) 1 0 0) :: (5, .own (0, 11) row.length) :: (6, .own (0, 15) g.length) :: (7, .i i) :: (x8 ++ x9), [(2, .box [PV.sl false 1 E]), (11, .row 1 (row.map PV.i)), (15, .row 1 (seenS g.length row))], []⟩ =
      some (.exit 0, ⟨[(2, .ref (0, 2) 1 0 0), (5, .own (0, 11) (bfs g f i row).length), (6, .own (0, 15) g.length), (7, .i (bfs g f i row).length), (22, .b false)], [(2, .box [PV.sl false 1 E]), (11, .row 1 ((bfs g f i row).map PV.i)), (15, .row 1 (seenS g.length (bfs g f i row)))], []⟩)
  | 0, i, row, hr, hi, hf, x8, x9 => by have := hr.len; omega
  | f + 1, i, row, hr, hi, hf, x8, x9 => by
    have hl := hr.len
    have hgl := hs.1
    by_cases h : i < row.length
    · have hlt : (i : Int) < row.length := by omega
      have hx := hr.2 _ (getD_mem h)
      have hat := int_nth row i h
      generalize hxe : row.getD i 0 = x at hx hat
      have hxl : x < g.length := hx.2
      have hxn : x.toNat < g.length := by omega
      obtain ⟨nl, hat2⟩ := hE.2 x.toNat hxn
      have hEl := hE.1
      have hrow : ∀ m ∈ g.getD x.toNat [], 0 ≤ m.2 ∧ m.2 < g.length := hg.row _
      have hrl : (g.getD x.toNat []).length ≤ 1048576 := hs.2 _ (by rw [List.getD_eq_getElem?_getD, List.getElem?_eq_getElem hxn, Option.getD_some]; exact List.getElem_mem hxn)
      have hb : bfs g (f + 1) i row = bfs g f (i + 1) (addNew row (g.getD x.toNat [])) := by simp [bfs, h, ← hxe]
      rw [hb]
      generalize hL : g.getD x.toNat [] = L at hat2 hrow hrl
      have h0 := loopFr0 E i g.length L [] row hrow (by simp; omega) (by omega) nl
      simp only [List.nil_append, List.length_nil, show ((0 : Nat) : Int) = 0 from rfl] at h0
      have hn := loopFr1 E g hE hg hs f (i + 1) (addNew row L) (hr.add hrow) (by have := addNew_len L row; omega) (by omega) [] []
      have hw : IntKind.i64.wrap ((i : Int) + 1) = (i : Int) + 1 := wr (by omega)
      rw [loopI_eq]
      rcases encL_two nl false L with ⟨e, e2⟩ | e
      · rw [e] at hat2 h0
        subst e2
        simp only [List.length_nil, show ((0 : Nat) : Int) = 0 from rfl] at h0
        simp [r104l1, b104l1, h, hlt, hat, hat2, hx.1, hxl, h0, hw, hEl]
        simpa using hn
      · rw [e] at hat2 h0
        simp [r104l1, b104l1, h, hlt, hat, hat2, hx.1, hxl, h0, hw, hEl]
        simpa using hn
    · have he : i = row.length := by omega
      have hb : bfs g (f + 1) i row = row := by simp [bfs, h]
      rw [hb, loopI_eq]
      subst he
      simp [r104l1, b104l1]
theorem eqFrom (E : List PV) (g : Gr) (hE : EncR false E g) (hg : OkTo g) (hs : SmallG g) (s : Int) (h : 0 ≤ s ∧ s < g.length) :
    callI G 104 [.agg [.sl false 1 E], .i s] [] = some (.sl true 1 ((reach g s).map PV.i), []) := by
  have hl := loopFr1 E g hE hg hs (g.length + 1) 0 [s] (InN.one h) (by simp) (by omega) [] []
  have hgl := hs.1
  have hEl := hE.1
  simp only [show ((0 : Nat) : Int) = 0 from rfl, List.length_cons, List.length_nil, List.map_cons, List.map_nil, List.append_nil, Nat.zero_add] at hl
  have hz := seenS_n g.length
  have hst := seenS_set (row := []) h
  simp only [List.nil_append] at hst
  have hn := seenS_nth (row := []) h
  have h4 : g.length ≤ 4294967296 := by omega
  have h5 : (g.length : Int) ≤ 4294967296 := by omega
  rw [callI_eq]
  simp [body1_eq _ _ (gp 104) g104, c104, a104, hl, hEl, hz, hst, hn, h.1, h.2, reach, h4, h5, unAgg]
end Go.Am
end
section
set_option maxRecDepth 10000
set_option maxHeartbeats 1000000
set_option linter.unusedSimpArgs false
set_option linter.unusedVariables false
namespace Go.Am
open Go.Proofs Go.Sort Go.Shelf
theorem owP_ne {d : Nat} {l : List Mv} (h : l ≠ []) : owP d l = .own (0, d) l.length := by simp [owP, h]
theorem owL_ne {d : Nat} {l : List Mv} (h : l ≠ []) : owL d l = [(d, .row 2 (l.map mvP))] := by simp [owL, h]
/-! spec.l3Sorted -/
theorem loopSo0 (L : List PV) (i : Nat) (x : Mv) (hi : i < L.length) (hx : nth L i = some (mvP x)) (O : List Mv) (hO : O.length ≤ 1048576) : ∀ (n : Nat) (p q : List Mv), p.length = n → O = p ++ q → (∀ y ∈ q, ltM x y = true) →
    ∃ p' q', O = p' ++ q' ∧ (∀ y ∈ q', ltM x y = true) ∧ (∀ z, p'.getLast? = some z → ltM x z = false) ∧
    loopI G [0, 3, 4, 5] [7, 49] c68l0 ⟨[(0, .sl false 2 L), (3, owP 49 O), (4, .i i), (5, .i p.length)], owL 49 O, []⟩ =
      some (.exit 2, ⟨[(0, .sl false 2 L), (3, owP 49 O), (4, .i i), (5, .i p'.length), (29, .b false)], owL 49 O, []⟩)
  | 0, p, q, hn, hO2, hq => by
    have hp : p = [] := List.length_eq_zero_iff.1 hn
    subst hp
    rw [List.nil_append] at hO2
    subst hO2
    refine ⟨[], O, rfl, hq, (by intro z hz; cases hz), ?_⟩
    rw [loopI_eq]
    by_cases hd : O = []
    · subst hd
      simp [r68l0, b68l0]
    · rw [owP_ne hd, owL_ne hd]
      simp [r68l0, b68l0]
  | n + 1, p, q, hn, hO2, hq => by
    rcases last_cases p with ⟨h1, _⟩ | ⟨p0, z, h1, hgl⟩
    · subst h1; cases hn
    · subst h1
      have hn0 : p0.length = n := by simpa using hn
      have hne : O ≠ [] := by rw [hO2]; simp
      have hle := eqLess x z
      have hOl : O.length = p0.length + (1 + q.length) := by rw [hO2]; simp; omega
      have hat : nth (O.map mvP) p0.length = some (mvP z) := by
        rw [hO2, List.append_assoc]; exact mv_at p0 z q
      have hlt : (p0.length : Int) < O.length := by omega
      have hlt2 : p0.length < O.length := by omega
      have hw : IntKind.i64.wrap ((p0.length : Int) + 1 - 1) = p0.length := by rw [wr (by omega)]; omega
      have hw3 : IntKind.i64.wrap (p0.length : Int) = (p0.length : Int) := wr (by omega)
      have hpos : (0 : Int) < (p0.length : Int) + 1 := by omega
      have hpl : ((p0 ++ [z]).length : Int) = (p0.length : Int) + 1 := by simp
      have hi2 : (i : Int) < L.length := by omega
      rw [hpl, owP_ne hne, owL_ne hne]
      simp only [mvP] at hx hle hat
      have hml : (O.map mvP).length = O.length := by simp
      cases hv : ltM x z with
      | true =>
        rw [hv] at hle
        obtain ⟨p', q', a1, a2, a3, a4⟩ := loopSo0 L i x hi hx O hO n p0 (z :: q) hn0 (by rw [hO2]; simp) (fun y hy => by rcases List.mem_cons.1 hy with rfl | hy; exact hv; exact hq y hy)
        refine ⟨p', q', a1, a2, a3, ?_⟩
        rw [owP_ne hne, owL_ne hne] at a4
        generalize hM : O.map mvP = M at hat hml a4 ⊢
        rw [loopI_eq]
        simp [r68l0, b68l0, hpos, hi, hi2, hx, hml, hw, hw3, hlt, hlt2, hat, hle]
        simpa using a4
      | false =>
        rw [hv] at hle
        refine ⟨p0 ++ [z], q, hO2, hq, (fun y hy => by rw [hgl] at hy; cases hy; exact hv), ?_⟩
        rw [hpl]
        generalize hM : O.map mvP = M at hat hml ⊢
        rw [loopI_eq]
        simp [r68l0, b68l0, hpos, hi, hi2, hx, hml, hw, hw3, hlt, hlt2, hat, hle]
theorem loopSo1 (L : List PV) (i : Int) (p : List Mv) (N : Nat) (hN : N ≤ 1048577) : ∀ (n : Nat) (q1 : List Mv) (w : Mv) (q2 : List Mv), q1.length = n → p.length + q1.length + 1 + q2.length = N →
    ∃ w' : Mv, loopI G [0, 3, 4, 5, 6] [7, 49] c68l1 ⟨[(0, .sl false 2 L), (3, .own (0, 49) N), (4, .i i), (5, .i p.length), (6, .i (p.length + q1.length))], [(49, .row 2 ((p ++ (q1 ++ w :: q2)).map mvP))], []⟩ =
      some (.exit 4, ⟨[(0, .sl false 2 L), (3, .own (0, 49) N), (4, .i i), (5, .i p.length), (6, .i p.length), (55, .b false)], [(49, .row 2 ((p ++ w' :: (q1 ++ q2)).map mvP))], []⟩)
  | 0, q1, w, q2, hn, hl => by
    have hq : q1 = [] := List.length_eq_zero_iff.1 hn
    subst hq
    refine ⟨w, ?_⟩
    rw [loopI_eq]
    simp [r68l1, b68l1]
  | n + 1, q1, w, q2, hn, hl => by
    rcases last_cases q1 with ⟨h1, _⟩ | ⟨q0, z, h1, hgl⟩
    · subst h1; cases hn
    · subst h1
      have hn0 : q0.length = n := by simpa using hn
      have hl0 : p.length + q0.length + 1 + (z :: q2).length = N := by simp at hl ⊢; omega
      obtain ⟨w', hnx⟩ := loopSo1 L i p N hN n q0 z (z :: q2) hn0 hl0
      refine ⟨w', ?_⟩
      simp only [List.length_cons] at hl0
      have hj : (p.length : Int) + ((q0 ++ [z]).length : Int) = (p.length : Int) + q0.length + 1 := by simp; omega
      have hgt : (p.length : Int) < (p.length : Int) + q0.length + 1 := by omega
      have hw : IntKind.i64.wrap ((p.length : Int) + q0.length + 1 - 1) = (p.length : Int) + q0.length := by rw [wr (by omega)]; omega
      have hw2 : IntKind.i64.wrap ((p.length : Int) + q0.length) = (p.length : Int) + q0.length := wr (by omega)
      have hge : (0 : Int) ≤ (p.length : Int) + q0.length := by omega
      have hge1 : (0 : Int) ≤ (p.length : Int) + q0.length + 1 := by omega
      have hlt : (p.length : Int) + q0.length < N := by omega
      have hlt1 : (p.length : Int) + q0.length + 1 < N := by omega
      have htn : ((p.length : Int) + q0.length).toNat = p.length + q0.length := by omega
      have htn1 : ((p.length : Int) + q0.length + 1).toNat = p.length + q0.length + 1 := by omega
      have hml : ((p ++ (q0 ++ [z] ++ w :: q2)).map mvP).length = N := by simp; omega
      have hat : nth ((p ++ (q0 ++ [z] ++ w :: q2)).map mvP) (p.length + q0.length) = some (mvP z) := by
        have := at_D ((p ++ q0).map mvP) (mvP z) ((w :: q2).map mvP) (p.length + q0.length) (by simp)
        simpa using this
      have hat1 : nth ((p ++ (q0 ++ [z] ++ w :: q2)).map mvP) (p.length + q0.length + 1) = some (mvP w) := by
        have := at_D ((p ++ (q0 ++ [z])).map mvP) (mvP w) (q2.map mvP) (p.length + q0.length + 1) (by simp; omega)
        simpa using this
      have hst : ((p ++ (q0 ++ [z] ++ w :: q2)).map mvP).set (p.length + q0.length + 1) (mvP z) = (p ++ (q0 ++ z :: z :: q2)).map mvP := by
        have := set_D ((p ++ (q0 ++ [z])).map mvP) (mvP w) (mvP z) (q2.map mvP) (p.length + q0.length + 1) (by simp; omega)
        simpa using this
      rw [hj]
      generalize hM : (p ++ (q0 ++ [z] ++ w :: q2)).map mvP = M at hat hat1 hst hml ⊢
      have hr : (p ++ w' :: (q0 ++ [z] ++ q2)).map mvP = (p ++ w' :: (q0 ++ z :: q2)).map mvP := by simp
      rw [hr]
      simp only [mvP] at hat hat1 hst
      generalize hM2 : (p ++ (q0 ++ z :: z :: q2)).map mvP = M2 at hst hnx
      generalize hM3 : (p ++ w' :: (q0 ++ z :: q2)).map mvP = M3 at hnx ⊢
      rw [loopI_eq]
      simp [r68l1, b68l1, hgt, hw, hw2, hge, hge1, hlt, hlt1, htn, htn1, hml, hat, hat1, unAgg, hst]
      exact hnx
/-- Strictly in order. -/
def Sd (l : List Mv) : Prop := l.Pairwise fun a b => ltM a b = true
theorem ltM_tr {a b d : Mv} (h : ltM a b = true) (k : ltM b d = true) : ltM a d = true := by
  have h := (ltM_iff a b).1 h
  have k := (ltM_iff b d).1 k
  refine (ltM_iff a d).2 ?_
  omega
theorem ltM_irr (a : Mv) : ltM a a = false := (ltM_false a a).2 (by omega)
theorem ltM_as {a b : Mv} (h : ltM a b = true) : ltM b a = false := by
  have h := (ltM_iff a b).1 h
  exact (ltM_false b a).2 (by omega)
theorem ltM_eq {a b : Mv} (h : ltM a b = false) (k : ltM b a = false) : a = b := by
  have h := (ltM_false a b).1 h
  have k := (ltM_false b a).1 k
  exact Prod.ext (by omega) (by omega)
theorem Sd_split {p q : List Mv} {x : Mv} (h : Sd (p ++ q)) (hq : ∀ y ∈ q, ltM x y = true) (hp : ∀ z, p.getLast? = some z → ltM z x = true) : Sd (p ++ x :: q) := by
  have h := List.pairwise_append.1 h
  refine List.pairwise_append.2 ⟨h.1, List.pairwise_cons.2 ⟨hq, h.2.1⟩, fun a ha b hb => ?_⟩
  rcases List.mem_cons.1 hb with rfl | hb
  · rcases last_cases p with ⟨e, _⟩ | ⟨p0, z, e, hg⟩
    · subst e; cases ha
    · have hz := hp z hg
      subst e
      rcases List.mem_append.1 ha with ha | ha
      · exact ltM_tr ((List.pairwise_append.1 h.1).2.2 a ha z (by simp)) hz
      · rw [List.mem_singleton] at ha; subst ha; exact hz
  · exact h.2.2 a ha b hb
end Go.Am
end
section
set_option maxRecDepth 10000
set_option maxHeartbeats 1000000
set_option linter.unusedSimpArgs false
set_option linter.unusedVariables false
namespace Go.Am
open Go.Proofs Go.Sort Go.Shelf
theorem wr0 : IntKind.i64.wrap 0 = 0 := by rfl
theorem loopSo2 (list : List Mv) (hl : list.length ≤ 1048576) : ∀ (rest done : List Mv), list = done ++ rest → ∀ O, Sd O → (∀ y, y ∈ O ↔ y ∈ done) → O.length ≤ done.length →
    ∃ O', Sd O' ∧ (∀ y, y ∈ O' ↔ y ∈ list) ∧
    loopI G [0, 3, 4] [7, 49] c68l2 ⟨[(0, .sl false 2 (list.map mvP)), (3, owP 49 O), (4, .i done.length)], owL 49 O, []⟩ =
      some (.exit 0, ⟨[(0, .sl false 2 (list.map mvP)), (3, owP 49 O'), (4, .i list.length), (11, .b false)], owL 49 O', []⟩)
  | [], done, hd, O, hO, hm, hOl => by
    rw [List.append_nil] at hd
    subst hd
    refine ⟨O, hO, hm, ?_⟩
    rw [loopI_eq]
    by_cases hne : O = []
    · subst hne
      simp [r68l2, b68l2]
    · rw [owP_ne hne, owL_ne hne]
      simp [r68l2, b68l2]
  | x :: rest, done, hd, O, hO, hm, hOl => by
    have hll : list.length = done.length + (rest.length + 1) := by rw [hd]; simp
    have hlt : (done.length : Int) < list.length := by omega
    have hlt2 : done.length < list.length := by omega
    have hw : IntKind.i64.wrap ((done.length : Int) + 1) = (done.length : Int) + 1 := wr (by omega)
    have hx : nth (list.map mvP) done.length = some (mvP x) := by rw [hd]; exact mv_at done x rest
    have hLl : (list.map mvP).length = list.length := by simp
    obtain ⟨p, q, a1, a2, a3, a4⟩ := loopSo0 (list.map mvP) done.length x (by rw [hLl]; omega) hx O (by omega) O.length O [] rfl (by simp) (by simp)
    by_cases hz : ∃ z, p.getLast? = some z ∧ z = x
    · -- there already
      obtain ⟨z, hz1, rfl⟩ := hz
      rcases last_cases p with ⟨e, e2⟩ | ⟨p0, z', e, e2⟩
      · rw [e2] at hz1; cases hz1
      · rw [e2] at hz1
        cases hz1
        have hne : O ≠ [] := by rw [a1, e]; simp
        have hxO : z ∈ O := by rw [a1, e]; simp
        have hat : nth (O.map mvP) p0.length = some (mvP z) := by
          rw [a1, e, List.append_assoc]; exact mv_at p0 z q
        have hOl2 : O.length = p0.length + (1 + q.length) := by rw [a1, e]; simp; omega
        have hpl : (p.length : Int) = (p0.length : Int) + 1 := by rw [e]; simp
        obtain ⟨O', b1, b2, b3⟩ := loopSo2 list hl rest (done ++ [z]) (by simpa using hd) O hO (fun y => by
          rw [hm y, List.mem_append, List.mem_singleton]
          exact ⟨.inl, fun h => h.elim id fun h => by rw [h]; exact (hm z).1 hxO⟩) (by simp; omega)
        refine ⟨O', b1, b2, ?_⟩
        rw [hpl] at a4
        have hltp : (p0.length : Int) < O.length := by omega
        have hltp2 : p0.length < O.length := by omega
        have hwp : IntKind.i64.wrap ((p0.length : Int) + 1 - 1) = p0.length := by rw [wr (by omega)]; omega
        have hw3 : IntKind.i64.wrap (p0.length : Int) = (p0.length : Int) := wr (by omega)
        have hpos : (0 : Int) < (p0.length : Int) + 1 := by omega
        have hml : (O.map mvP).length = O.length := by simp
        rw [owP_ne hne, owL_ne hne] at a4 b3 ⊢
        simp only [List.length_append, List.length_cons, List.length_nil, Int.natCast_add, show ((0 + 1 : Nat) : Int) = 1 from rfl] at b3
        simp only [mvP] at hx hat
        generalize hM : O.map mvP = M at hat hml a4 b3 ⊢
        generalize hL : list.map mvP = L at hx hLl a4 b3 ⊢
        rw [loopI_eq]
        simp [r68l2, b68l2, hlt, hlt2, hw, hx, hLl, a4, hpos, hwp, hw3, hltp, hltp2, hml, hat]
        exact b3
    · -- a new one
      have hltz : ∀ z, p.getLast? = some z → ltM z x = true := fun z hz1 => by
        cases hv : ltM z x with
        | true => rfl
        | false => exact absurd ⟨z, hz1, ltM_eq hv (a3 z hz1)⟩ hz
      have hO' : Sd (p ++ x :: q) := Sd_split (a1 ▸ hO) a2 hltz
      have hm' : ∀ y, y ∈ p ++ x :: q ↔ y ∈ done ++ [x] := fun y => by
        have := hm y
        rw [a1] at this
        simp only [List.mem_append, List.mem_cons, List.not_mem_nil, or_false] at this ⊢
        rw [← this]
        constructor
        · rintro (h | h | h)
          · exact .inl (.inl h)
          · exact .inr h
          · exact .inl (.inr h)
        · rintro ((h | h) | h)
          · exact .inl h
          · exact .inr (.inr h)
          · exact .inr (.inl h)
      have hpq : O.length = p.length + q.length := by rw [a1]; simp
      obtain ⟨O', b1, b2, b3⟩ := loopSo2 list hl rest (done ++ [x]) (by simpa using hd) (p ++ x :: q) hO' hm' (by simp; omega)
      refine ⟨O', b1, b2, ?_⟩
      obtain ⟨w', c1⟩ := loopSo1 (list.map mvP) done.length p (O.length + 1) (by omega) q.length q (0, 0) [] rfl (by simp; omega)
      have hrow : (p ++ (q ++ (0, 0) :: [])).map mvP = O.map mvP ++ [.agg [.i 0, .i 0]] := by rw [a1]; simp [mvP]
      have hj : (p.length : Int) + q.length = O.length := by omega
      rw [hrow, hj, List.append_nil] at c1
      have hR2 : nth ((p ++ w' :: q).map mvP) p.length = some (mvP w') := mv_at p w' q
      have hS2 : ((p ++ w' :: q).map mvP).set p.length (mvP x) = (p ++ x :: q).map mvP := by simp
      have hml2 : ((p ++ w' :: q).map mvP).length = O.length + 1 := by simp; omega
      have hne3 : p ++ x :: q ≠ [] := by simp
      have hl3 : (p ++ x :: q).length = O.length + 1 := by simp; omega
      rw [owP_ne hne3, owL_ne hne3, hl3] at b3
      simp only [List.length_append, List.length_cons, List.length_nil, Int.natCast_add, show ((0 + 1 : Nat) : Int) = 1 from rfl] at b3
      have hpl : (p.length : Int) < (O.length : Int) + 1 := by omega
      have hpl2 : p.length < O.length + 1 := by omega
      have hwO : IntKind.i64.wrap ((O.length : Int) + 1 - 1) = O.length := by rw [wr (by omega)]; omega
      have hwO2 : IntKind.i64.wrap (O.length : Int) = O.length := wr (by omega)
      have hOlb : O.length ≤ 4294967295 := by omega
      by_cases hne : O = []
      · -- the first one
        have hp0 : p = [] := by cases p with | nil => rfl | cons u v => rw [hne] at a1; cases a1
        have hq0 : q = [] := by rw [hp0, hne] at a1; exact a1.symm
        subst hp0 hq0
        rw [hne] at a4 c1 ⊢
        rw [hne] at b3 hml2
        simp only [owP_n, owL_n, List.length_nil, List.map_nil, List.nil_append, Nat.zero_add, show ((0 : Nat) : Int) = 0 from rfl] at a4 c1 b3 hR2 hS2 hml2 ⊢
        simp only [mvP] at hx hS2 hR2
        generalize hL : list.map mvP = L at hx hLl a4 b3 c1 ⊢
        generalize hM2 : List.map mvP [w'] = M2 at hR2 hS2 hml2 c1
        rw [loopI_eq]
        simp [r68l2, b68l2, hlt, hlt2, hw, hx, hLl, a4, c1, wr0, hR2, hS2, hml2, unAgg]
        simpa using b3
      · rw [owP_ne hne, owL_ne hne] at a4 ⊢
        have hml : (O.map mvP).length = O.length := by simp
        rcases last_cases p with ⟨e, e2⟩ | ⟨p0, z, e, e2⟩
        · subst e
          simp only [List.length_nil, show ((0 : Nat) : Int) = 0 from rfl, List.nil_append] at a4 c1 hR2 hS2 hml2 b3
          simp only [mvP] at hx hS2 hR2
          generalize hL : list.map mvP = L at hx hLl a4 b3 c1 ⊢
          generalize hM2 : List.map mvP (w' :: q) = M2 at hR2 hS2 hml2 c1
          generalize hM : O.map mvP = M at hml a4 c1 ⊢
          generalize hM3 : List.map mvP (x :: q) = M3 at hS2 b3
          rw [loopI_eq]
          simp [r68l2, b68l2, hlt, hlt2, hw, hx, hLl, a4, c1, hR2, hS2, hml2, unAgg, hml, hwO, hwO2, hOlb]
          exact b3
        · have hzx : ¬ z = x := fun h => hz ⟨z, e2, h⟩
          have hdec : (decide (z.1 = x.1) && decide (z.2 = x.2)) = false := by
            rw [← Bool.decide_and]; exact decide_eq_false fun h => hzx (Prod.ext h.1 h.2)
          have hpp : (p.length : Int) = (p0.length : Int) + 1 := by rw [e]; simp
          have hat : nth (O.map mvP) p0.length = some (mvP z) := by
            rw [a1, e, List.append_assoc]; exact mv_at p0 z q
          have hppn : p.length = p0.length + 1 := by omega
          have hltp : (p0.length : Int) < O.length := by omega
          have hltp2 : p0.length < O.length := by omega
          have hwp : IntKind.i64.wrap ((p0.length : Int) + 1 - 1) = p0.length := by rw [wr (by omega)]; omega
          have hw3 : IntKind.i64.wrap (p0.length : Int) = (p0.length : Int) := wr (by omega)
          have hpos : (0 : Int) < (p0.length : Int) + 1 := by omega
          rw [hpp] at a4 c1
          rw [hppn] at hR2 hS2 hpl2
          have hge1 : (0 : Int) ≤ (p0.length : Int) + 1 := by omega
          have hltq : p0.length < O.length := by omega
          simp only [mvP] at hx hS2 hR2 hat
          generalize hL : list.map mvP = L at hx hLl a4 b3 c1 ⊢
          generalize hM2 : List.map mvP (p ++ w' :: q) = M2 at hR2 hS2 hml2 c1
          generalize hM : O.map mvP = M at hml a4 c1 hat ⊢
          generalize hM3 : List.map mvP (p ++ x :: q) = M3 at hS2 b3
          rw [loopI_eq]
          simp [r68l2, b68l2, hlt, hlt2, hw, hx, hLl, a4, c1, hR2, hS2, hml2, unAgg, hml, hwO, hwO2, hOlb, hpos, hwp, hw3, hltp, hltp2, hat, hdec, hge1]
          exact b3
end Go.Am
end
section
set_option maxRecDepth 10000
set_option maxHeartbeats 1000000
set_option linter.unusedSimpArgs false
set_option linter.unusedVariables false
namespace Go.Am
open Go.Proofs Go.Sort Go.Shelf
theorem Sd_uniq : ∀ (a b : List Mv), Sd a → Sd b → (∀ y, y ∈ a ↔ y ∈ b) → a = b
  | [], [], _, _, _ => rfl
  | [], y :: b, _, _, h => by have := (h y).2 List.mem_cons_self; cases this
  | x :: a, [], _, _, h => by have := (h x).1 List.mem_cons_self; cases this
  | x :: a, y :: b, ha, hb, h => by
    have ha' := List.pairwise_cons.1 ha
    have hb' := List.pairwise_cons.1 hb
    have hxy : x = y := by
      rcases List.mem_cons.1 ((h x).1 List.mem_cons_self) with e | e
      · exact e
      · rcases List.mem_cons.1 ((h y).2 List.mem_cons_self) with e' | e'
        · exact e'.symm
        · have h1 := hb'.1 x e
          have h2 := ha'.1 y e'
          rw [ltM_as h1] at h2; cases h2
    subst hxy
    have : a = b := Sd_uniq a b ha'.2 hb'.2 fun y => by
      constructor
      · intro hy
        rcases List.mem_cons.1 ((h y).1 (List.mem_cons_of_mem _ hy)) with e | e
        · subst e; have := ha'.1 y hy; rw [ltM_irr] at this; cases this
        · exact e
      · intro hy
        rcases List.mem_cons.1 ((h y).2 (List.mem_cons_of_mem _ hy)) with e | e
        · subst e; have := hb'.1 y hy; rw [ltM_irr] at this; cases this
        · exact e
    rw [this]
theorem ddup_sd : ∀ (l : List Mv) (p : Mv), (p :: l).Pairwise (fun a b => ltM b a = false) → Sd (p :: ddup p l) ∧ ∀ y, y ∈ p :: ddup p l ↔ y ∈ p :: l
  | [], p, h => ⟨by simp [Sd, ddup], fun y => by simp [ddup]⟩
  | x :: l, p, h => by
    have h1 := List.pairwise_cons.1 h
    have h2 := List.pairwise_cons.1 h1.2
    simp only [ddup]
    split
    · rename_i e
      subst e
      have ih := ddup_sd l x h1.2
      refine ⟨ih.1, fun y => ?_⟩
      rw [ih.2 y]
      simp
    · rename_i e
      have ih := ddup_sd l x h1.2
      refine ⟨List.pairwise_cons.2 ⟨fun y hy => ?_, ih.1⟩, fun y => ?_⟩
      · have hy' := (ih.2 y).1 hy
        have hyp := h1.1 y hy'
        cases hv : ltM p y with
        | true => rfl
        | false =>
          have : p = y := ltM_eq hv hyp
          subst this
          have hxp := h1.1 x List.mem_cons_self
          rcases List.mem_cons.1 hy' with e' | e'
          · exact absurd e'.symm e
          · exact absurd (ltM_eq hxp (h2.1 p e')) e
      · rw [List.mem_cons, ih.2 y, List.mem_cons (l := x :: l)]
theorem srtM_pw (l : List Mv) : (srtM l).Pairwise fun a b => ltM b a = false := by
  have := List.pairwise_mergeSort (le := fun x y : Mv => !ltM y x) (fun a b d h k => by
    simp only [Bool.not_eq_true'] at h k ⊢
    have h := (ltM_false b a).1 h
    have k := (ltM_false d b).1 k
    exact (ltM_false d a).2 (by omega)) (fun a b => by
    cases h : ltM b a with
    | false => simp
    | true => simp [ltM_as h]) l
  exact this.imp fun h => by simpa using h
theorem srtM_mem (l : List Mv) (y : Mv) : y ∈ srtM l ↔ y ∈ l := (List.mergeSort_perm l _).mem_iff
theorem tidyL_sd (l : List Mv) : Sd (tidyL l) ∧ ∀ y, y ∈ tidyL l ↔ y ∈ l := by
  unfold tidyL
  have hp := srtM_pw l
  have hm := srtM_mem l
  cases hs : srtM l with
  | nil =>
    rw [hs] at hm
    exact ⟨by simp [dd, Sd], fun y => by rw [← hm y]; simp [dd]⟩
  | cons x r =>
    rw [hs] at hp hm
    have := ddup_sd r x hp
    exact ⟨this.1, fun y => by rw [← hm y]; exact this.2 y⟩
theorem eqSorted (nl : Bool) (l : List Mv) (hl : l.length ≤ 1048576) : callI G 68 [encL nl false l] [] = some (encL true true (tidyL l), []) := by
  rw [callI_eq]
  by_cases he : l = []
  · subst he
    rw [tidyL_n]
    have l2 := loopSo2 [] (by simp) [] [] rfl [] (by simp [Sd]) (by simp) (by simp)
    rcases encL_two nl false [] with ⟨e, _⟩ | e
    · rw [e]
      have l0 : loopI G [0, 3, 4] [7, 49] c68l2 ⟨[(0, .nils), (3, .nils), (4, .i 0)], [], []⟩ = some (.exit 0, ⟨[(0, .nils), (3, .nils), (4, .i 0), (11, .b false)], [], []⟩) := by
        rw [loopI_eq]
        simp [r68l2, b68l2]
      simp [body1_eq _ _ (gp 68) g68, c68, a68, l0]
    · rw [e]
      have l0 : loopI G [0, 3, 4] [7, 49] c68l2 ⟨[(0, .sl false 2 []), (3, .nils), (4, .i 0)], [], []⟩ = some (.exit 0, ⟨[(0, .sl false 2 []), (3, .nils), (4, .i 0), (11, .b false)], [], []⟩) := by
        rw [loopI_eq]
        simp [r68l2, b68l2]
      simp [body1_eq _ _ (gp 68) g68, c68, a68, l0]
  · obtain ⟨O, h1, h2, h3⟩ := loopSo2 l hl l [] rfl [] (by simp [Sd]) (by simp) (by simp)
    have hO : O = tidyL l := Sd_uniq _ _ h1 (tidyL_sd l).1 fun y => by rw [h2 y, (tidyL_sd l).2 y]
    have hne : tidyL l ≠ [] := tidyL_ne he
    rw [hO, owP_ne hne, owL_ne hne] at h3
    rw [encL_ne he, encL_ne hne]
    simp only [owP_n, owL_n, List.length_nil, show ((0 : Nat) : Int) = 0 from rfl] at h3
    simp [body1_eq _ _ (gp 68) g68, c68, a68, h3]
end Go.Am
end
section
set_option maxRecDepth 10000
set_option maxHeartbeats 1000000
set_option linter.unusedSimpArgs false
set_option linter.unusedVariables false
namespace Go.Am
open Go.Proofs Go.Sort Go.Shelf
theorem atG_app (x y : Int) : ∀ (row : List Int) (i : Nat), x ∉ row → atG i (row ++ [x]) y = if y = x then ((i + row.length : Nat) : Int) else atG i row y
  | [], i, h => by
    simp only [List.nil_append, atG]
    by_cases c : x = y
    · simp [c]
    · have : ¬ y = x := fun e => c e.symm
      simp [c, this]
  | z :: row, i, h => by
    have hz : x ≠ z := fun e => h (by rw [e]; exact List.mem_cons_self)
    have ih := atG_app x y row (i + 1) (fun e => h (List.mem_cons_of_mem _ e))
    simp only [List.cons_append, atG]
    by_cases c : z = y
    · have : ¬ y = x := fun e => hz (by rw [← e, c])
      simp [c, this]
    · simp only [c, if_false, ih, List.length_cons]
      by_cases d : y = x
      · simp [d]; omega
      · simp [d]
def atS (n : Nat) (row : List Int) : List PV := (List.range n).map fun k : Nat => PV.i (atOf row k)
@[simp] theorem atS_len (n : Nat) (row : List Int) : (atS n row).length = n := by simp [atS]
theorem atS_nth {n : Nat} {row : List Int} {x : Int} (h : 0 ≤ x ∧ x < n) : nth (atS n row) x.toNat = some (.i (atOf row x)) := by
  unfold nth atS
  have h1 : x.toNat < n := by omega
  have h2 : ((x.toNat : Nat) : Int) = x := by omega
  simp [h1, h2]
theorem atS_set {n : Nat} {row : List Int} {x : Int} (h : 0 ≤ x ∧ x < n) (hx : x ∉ row) : (atS n row).set x.toNat (.i row.length) = atS n (row ++ [x]) := by
  apply List.ext_getElem (by simp)
  intro i h1 h2
  simp only [atS_len, List.length_set] at h1 h2
  simp only [atS, List.getElem_set, List.getElem_map, List.getElem_range, atOf, atG_app x _ row 0 hx, Nat.zero_add]
  by_cases c : x.toNat = i
  · have : (i : Int) = x := by omega
    simp [c, this]
  · have : ¬ (i : Int) = x := by omega
    simp [c, this]
theorem atS_n (n : Nat) : List.replicate n (PV.i 0) = atS n [] := by
  apply List.ext_getElem (by simp)
  intro i h1 h2
  simp [atS, atOf, atG]
/-! spec.l3Part -/
theorem loopSp0 (E : List PV) (n N : Nat) (hN : N ≤ 4294967296) : ∀ (rest done : List Int), InN n (done ++ rest) → (done ++ rest).length = N →
    loopI G [2, 4, 5, 6, 7] [2, 4, 15, 19, 81] c91l0 ⟨[(2, .ref (0, 2) 1 0 0), (4, .ref (0, 4) 1 0 0), (5, .own (0, 15) N), (6, .own (0, 19) n), (7, .i done.length)], [(2, .box [PV.sl false 1 E]), (4, .box [.nils]), (15, .row 1 ((done ++ rest).map PV.i)), (19, .row 1 (atS n done))], []⟩ =
      some (.exit 0, ⟨[(2, .ref (0, 2) 1 0 0), (4, .ref (0, 4) 1 0 0), (5, .own (0, 15) N), (6, .own (0, 19) n), (7, .i N), (23, .b false)], [(2, .box [PV.sl false 1 E]), (4, .box [.nils]), (15, .row 1 ((done ++ rest).map PV.i)), (19, .row 1 (atS n (done ++ rest)))], []⟩)
  | [], done, hd, h => by
    simp only [List.append_nil] at h ⊢
    rw [h, loopI_eq]
    simp [r91l0, b91l0, h]
  | x :: rest, done, hd, h => by
    have hlt : (done.length : Int) < N := by simp at h; omega
    have hlt2 : done.length < N := by omega
    have hw : IntKind.i64.wrap ((done.length : Int) + 1) = (done.length : Int) + 1 := wr (by omega)
    have hat : nth ((done ++ x :: rest).map PV.i) done.length = some (.i x) := by rw [List.map_append, List.map_cons]; exact at_D _ _ _ _ (by simp)
    have hx : x ∉ done := fun hm => (List.nodup_append.1 hd.1).2.2 x hm x List.mem_cons_self rfl
    have hxr := hd.2 x (by simp)
    have hsn := atS_nth (row := done) hxr
    have hst := atS_set hxr hx
    have hn := loopSp0 E n N hN rest (done ++ [x]) (by simpa using hd) (by simpa using h)
    have e1 : done ++ [x] ++ rest = done ++ x :: rest := by simp
    rw [e1] at hn
    have hl2 : ((done ++ x :: rest).map PV.i).length = N := by simpa using h
    generalize hR : (done ++ x :: rest).map PV.i = R at hat hn hl2 ⊢
    rw [loopI_eq]
    simp [r91l0, b91l0, hlt, hlt2, hl2, hw, hat, hsn, hst, hxr.1, hxr.2, unAgg]
    simpa using hn
theorem loopSp1 (E : List PV) (g : Gr) (hE : EncR false E g) (Y : PV) (YL : Objs) (xs : List PV) (hY : OwnS 81 1 Y YL xs) (row : List Int) (j : Nat) (hj : j < row.length) (hjb : j ≤ 1048576) (x : Int) (hxj : nth (row.map PV.i) j = some (.i x)) (hx : 0 ≤ x ∧ x < g.length) (L : List Mv) (hL : g.getD x.toNat [] = L) (hLt : ∀ m ∈ L, 0 ≤ m.2 ∧ m.2 < g.length) (hLl : L.length ≤ 1048576) : ∀ (rest done : List Mv), L = done ++ rest →
    loopI G [2, 4, 5, 6, 8, 9, 10, 11] [2, 4, 8, 15, 19, 40, 75, 81] c91l1 ⟨[(2, .ref (0, 2) 1 0 0), (4, .ref (0, 4) 1 0 0), (5, .own (0, 15) row.length), (6, .own (0, 19) g.length), (8, .ref (0, 8) 1 0 0), (9, .i j), (10, owP 75 (reT row done)), (11, .i done.length)], (2, .box [PV.sl false 1 E]) :: (4, .box [.nils]) :: (8, .box [Y]) :: (15, .row 1 (row.map PV.i)) :: (19, .row 1 (atS g.length row)) :: (owL 75 (reT row done) ++ YL), []⟩ =
      some (.exit 4, ⟨[(2, .ref (0, 2) 1 0 0), (4, .ref (0, 4) 1 0 0), (5, .own (0, 15) row.length), (6, .own (0, 19) g.length), (8, .ref (0, 8) 1 0 0), (9, .i j), (10, owP 75 (reT row L)), (11, .i L.length), (51, .b false)], (2, .box [PV.sl false 1 E]) :: (4, .box [.nils]) :: (8, .box [Y]) :: (15, .row 1 (row.map PV.i)) :: (19, .row 1 (atS g.length row)) :: (owL 75 (reT row L) ++ YL), []⟩)
  | [], done, hd => by
    rw [List.append_nil] at hd
    subst hd
    have hEl := hE.1
    have hxn : x.toNat < g.length := by omega
    obtain ⟨nl, hat⟩ := hE.2 x.toNat hxn
    rw [hL] at hat
    have hji : (j : Int) < row.length := by omega
    have hrl : (row.map PV.i).length = row.length := by simp
    have hx1 := hx.1
    have hx2 := hx.2
    clear hE
    generalize hR : row.map PV.i = R at hxj hrl ⊢
    rw [loopI_eq]
    rcases encL_two nl false L with ⟨e, e2⟩ | e
    · rw [e] at hat
      subst e2
      rcases hY with ⟨rfl, rfl, rfl⟩ | ⟨hxs, rfl, rfl⟩
      · simp [r91l1, b91l1, hEl, hj, hji, hrl, hxj, hx1, hx2, hat, reT]
      · simp [r91l1, b91l1, hEl, hj, hji, hrl, hxj, hx1, hx2, hat, reT]
    · rw [e] at hat
      by_cases hd : L = []
      · rw [hd] at hat ⊢
        simp at hat
        rcases hY with ⟨rfl, rfl, rfl⟩ | ⟨hxs, rfl, rfl⟩
        · simp [r91l1, b91l1, hEl, hj, hji, hrl, hxj, hx1, hx2, hat, reT]
        · simp [r91l1, b91l1, hEl, hj, hji, hrl, hxj, hx1, hx2, hat, reT]
      · have hne : reT row L ≠ [] := by simp [reT, hd]
        rw [owP_ne hne, owL_ne hne]
        rcases hY with ⟨rfl, rfl, rfl⟩ | ⟨hxs, rfl, rfl⟩
        · simp [r91l1, b91l1, hEl, hj, hji, hrl, hxj, hx1, hx2, hat]
        · simp [r91l1, b91l1, hEl, hj, hji, hrl, hxj, hx1, hx2, hat]
  | m :: rest, done, hd => by
    have hEl := hE.1
    have hxn : x.toNat < g.length := by omega
    obtain ⟨nl, hat⟩ := hE.2 x.toNat hxn
    rw [hL] at hat
    have hji : (j : Int) < row.length := by omega
    have hm := hLt m (by rw [hd]; simp)
    have hen : encL nl false L = .sl false 2 (L.map mvP) := encL_ne (by rw [hd]; simp)
    rw [hen] at hat
    have hLl2 : L.length = done.length + (rest.length + 1) := by rw [hd]; simp
    have hlt : (done.length : Int) < L.length := by omega
    have hlt2 : done.length < L.length := by omega
    have hw : IntKind.i64.wrap ((done.length : Int) + 1) = (done.length : Int) + 1 := wr (by omega)
    have hdl : done.length ≤ 4294967295 := by omega
    have hat2 : nth (L.map mvP) done.length = some (mvP m) := by rw [hd]; exact mv_at done m rest
    have hsn := atS_nth (row := row) hm
    have hn := loopSp1 E g hE Y YL xs hY row j hj hjb x hxj hx L hL hLt hLl rest (done ++ [m]) (by simpa using hd)
    have hrl : (row.map PV.i).length = row.length := by simp
    have hx1 := hx.1
    have hx2 := hx.2
    have hm1 := hm.1
    have hm2 := hm.2
    have hml : (L.map mvP).length = L.length := by simp
    clear hE
    generalize hM : L.map mvP = M at hat hat2 hml
    generalize hR : row.map PV.i = R at hxj hrl hn ⊢
    simp only [mvP] at hat2
    rw [loopI_eq]
    rcases hY with ⟨rfl, rfl, rfl⟩ | ⟨hxs, rfl, rfl⟩
    · by_cases hdn : done = []
      · subst hdn
        simp at hat2 hn hlt
        simp [r91l1, b91l1, hEl, hj, hji, hrl, hxj, hx1, hx2, hat, hat2, hml, hlt, hlt2, mvP, unAgg, hw, hdl, wr1, hsn, hm1, hm2, reT]
        simpa [reT, mvP, Int.add_assoc] using hn
      · have hne : reT row done ≠ [] := by simp [reT, hdn]
        rw [owP_ne hne, owL_ne hne]
        simp [r91l1, b91l1, hEl, hj, hji, hrl, hxj, hx1, hx2, hat, hat2, hml, hlt, hlt2, mvP, unAgg, hw, hdl, hsn, hm1, hm2]
        simpa [reT, mvP, Int.add_assoc] using hn
    · by_cases hdn : done = []
      · subst hdn
        simp at hat2 hn hlt
        simp [r91l1, b91l1, hEl, hj, hji, hrl, hxj, hx1, hx2, hat, hat2, hml, hlt, hlt2, mvP, unAgg, hw, hdl, wr1, hsn, hm1, hm2, reT]
        simpa [reT, mvP, Int.add_assoc] using hn
      · have hne : reT row done ≠ [] := by simp [reT, hdn]
        rw [owP_ne hne, owL_ne hne]
        simp [r91l1, b91l1, hEl, hj, hji, hrl, hxj, hx1, hx2, hat, hat2, hml, hlt, hlt2, mvP, unAgg, hw, hdl, hsn, hm1, hm2]
        simpa [reT, mvP, Int.add_assoc] using hn
end Go.Am
end
section
set_option maxRecDepth 10000
set_option maxHeartbeats 1000000
set_option linter.unusedSimpArgs false
set_option linter.unusedVariables false
namespace Go.Am
open Go.Proofs Go.Sort Go.Shelf
theorem loopSp2 (E : List PV) (g : Gr) (hE : EncR false E g) (hg : OkTo g) (hs : SmallG g) (row : List Int) (hrow : InN g.length row) : ∀ (rest done : List Int), row = done ++ rest → ∀ Y YL, OwnS 81 1 Y YL (encGs true true (done.map (ptR g row))) →
    ∃ Y' YL', OwnS 81 1 Y' YL' (encGs true true (row.map (ptR g row))) ∧
    loopI G [2, 4, 5, 6, 8, 9] [2, 4, 8, 15, 19, 81] c91l2 ⟨[(2, .ref (0, 2) 1 0 0), (4, .ref (0, 4) 1 0 0), (5, .own (0, 15) row.length), (6, .own (0, 19) g.length), (8, .ref (0, 8) 1 0 0), (9, .i done.length)], (2, .box [PV.sl false 1 E]) :: (4, .box [.nils]) :: (8, .box [Y]) :: (15, .row 1 (row.map PV.i)) :: (19, .row 1 (atS g.length row)) :: YL, []⟩ =
      some (.exit 2, ⟨[(2, .ref (0, 2) 1 0 0), (4, .ref (0, 4) 1 0 0), (5, .own (0, 15) row.length), (6, .own (0, 19) g.length), (8, .ref (0, 8) 1 0 0), (9, .i row.length), (37, .b false)], (2, .box [PV.sl false 1 E]) :: (4, .box [.nils]) :: (8, .box [Y']) :: (15, .row 1 (row.map PV.i)) :: (19, .row 1 (atS g.length row)) :: YL', []⟩)
  | [], done, hd, Y, YL, hY => by
    rw [List.append_nil] at hd
    subst hd
    refine ⟨Y, YL, hY, ?_⟩
    rw [loopI_eq]
    rcases hY with ⟨h1, rfl, rfl⟩ | ⟨h1, rfl, rfl⟩
    · simp [r91l2, b91l2]
    · simp [r91l2, b91l2]
  | x :: rest, done, hd, Y, YL, hY => by
    have hl := hrow.len
    have hgl := hs.1
    have hrl : row.length = done.length + (rest.length + 1) := by rw [hd]; simp
    have hlt : (done.length : Int) < row.length := by omega
    have hlt2 : done.length < row.length := by omega
    have hw : IntKind.i64.wrap ((done.length : Int) + 1) = (done.length : Int) + 1 := wr (by omega)
    have hx := hrow.2 x (by rw [hd]; simp)
    have hat : nth (row.map PV.i) done.length = some (.i x) := by rw [hd, List.map_append, List.map_cons]; exact at_D _ _ _ _ (by simp)
    have hxn : x.toNat < g.length := by omega
    have hLl : (g.getD x.toNat []).length ≤ 1048576 := hs.2 _ (by rw [List.getD_eq_getElem?_getD, List.getElem?_eq_getElem hxn, Option.getD_some]; exact List.getElem_mem hxn)
    have hLt := hg.row x.toNat
    have hpt : ptR g row x = tidyL (reT row (g.getD x.toNat [])) := rfl
    have hYl : (encGs true true (done.map (ptR g row))).length = done.length := by simp
    have hdl : done.length ≤ 4294967295 := by omega
    generalize hL : g.getD x.toNat [] = L at hLl hpt hLt
    have h0 := loopSp1 E g hE Y YL _ hY row done.length hlt2 (by omega) x hat hx L hL hLt hLl L [] rfl
    simp only [List.nil_append, List.length_nil, show ((0 : Nat) : Int) = 0 from rfl, show reT row [] = [] from rfl, owP_n, owL_n] at h0
    have hnew : encGs true true ((done ++ [x]).map (ptR g row)) = encGs true true (done.map (ptR g row)) ++ [encL true true (ptR g row x)] := by simp [encGs]
    have hnn : encGs true true ((done ++ [x]).map (ptR g row)) ≠ [] := by rw [hnew]; simp
    have hYn : OwnS 81 1 (.own (0, 81) (done.length + 1)) [(81, .row 1 (encGs true true (done.map (ptR g row)) ++ [encL true true (ptR g row x)]))] (encGs true true ((done ++ [x]).map (ptR g row))) := by
      refine .inr ⟨hnn, ?_, ?_⟩
      · rw [hnew]; simp
      · rw [hnew]
    obtain ⟨Y', YL', hY', hn⟩ := loopSp2 E g hE hg hs row hrow rest (done ++ [x]) (by simpa using hd) _ _ hYn
    refine ⟨Y', YL', hY', ?_⟩
    simp only [List.length_append, List.length_cons, List.length_nil, Int.natCast_add, show ((0 + 1 : Nat) : Int) = 1 from rfl] at hn
    clear hY' hE
    have hso := eqSorted true (reT row L) (by simp; omega)
    rw [← hpt] at hso
    have hRl : (row.map PV.i).length = row.length := by simp
    generalize hR : row.map PV.i = R at h0 hn hRl ⊢
    rw [loopI_eq]
    by_cases hLe : L = []
    · subst hLe
      have hr0 : reT row [] = [] := rfl
      rw [hr0, tidyL_n] at hpt
      rw [hpt] at hn hso
      simp only [hr0, encL_n] at hso
      rcases hY with ⟨h1, rfl, rfl⟩ | ⟨h1, rfl, rfl⟩
      · have hd0 : done = [] := by cases done with | nil => rfl | cons a b => simp [encGs] at h1
        subst hd0
        have hlt0 : 0 < row.length := by omega
        simp [hr0] at h0 hn hat
        simp [r91l2, b91l2, hlt, hlt2, hRl, noShares_mv, hw, h0, hso, wr1, hlt0]
        simpa [encGs] using hn
      · simp [hr0] at h0 hn
        simp [r91l2, b91l2, hlt, hlt2, hRl, noShares_mv, hw, h0, hso, hdl]
        simpa [encGs] using hn
    · have hne : reT row L ≠ [] := by simp [reT, hLe]
      have hlt3 : encL true true (ptR g row x) = .sl true 2 ((ptR g row x).map mvP) := encL_ne (by rw [hpt]; exact tidyL_ne hne)
      rw [encL_ne hne] at hso
      rw [hlt3] at hn hso
      rw [owP_ne hne, owL_ne hne] at h0
      rcases hY with ⟨h1, rfl, rfl⟩ | ⟨h1, rfl, rfl⟩
      · have hd0 : done = [] := by cases done with | nil => rfl | cons a b => simp [encGs] at h1
        subst hd0
        have hlt0 : 0 < row.length := by omega
        simp at h0 hn hat
        simp [r91l2, b91l2, hlt, hlt2, hRl, noShares_mv, hw, h0, fals_mvP, hso, wr1, hlt0]
        simpa [encGs] using hn
      · simp at h0 hn
        simp [r91l2, b91l2, hlt, hlt2, hRl, noShares_mv, hw, h0, fals_mvP, hso, hdl]
        simpa [encGs] using hn
theorem reach_ne (g : Gr) (s : Int) : 1 ≤ (reach g s).length := by
  have hbl := bfs_len g (g.length + 1) 0 [s]
  unfold reach; simpa using hbl
theorem eqPart (E : List PV) (g : Gr) (hE : EncR false E g) (hg : OkTo g) (hs : SmallG g) (h : 0 < g.length) :
    callI G 91 [.agg [.sl false 1 E], .i 0] [] = some (.agg [.sl true 1 (encGs true true (partG g 0))], []) := by
  have h1 := eqFrom E g hE hg hs 0 (by omega)
  have hr : InN g.length (reach g 0) := InN.bfs hg _ _ (InN.one (by omega))
  have hl := hr.len
  have hgl := hs.1
  have hEl := hE.1
  have hpg : partG g 0 = (reach g 0).map (ptR g (reach g 0)) := rfl
  have hrl := reach_ne g 0
  rw [hpg]
  generalize hR : reach g 0 = row at h1 hr hl hrl
  have hne : row ≠ [] := by intro e; rw [e] at hrl; cases hrl
  have l0 := loopSp0 E g.length row.length (by omega) row [] hr rfl
  obtain ⟨Y, YL, hY, l2⟩ := loopSp2 E g hE hg hs row hr row [] rfl .nils [] (.inl ⟨rfl, rfl, rfl⟩)
  simp only [List.nil_append, List.length_nil, show ((0 : Nat) : Int) = 0 from rfl] at l0 l2
  have hne2 : encGs true true (row.map (ptR g row)) ≠ [] := by simp [encGs, hne]
  have hz := atS_n g.length
  have h4 : g.length ≤ 4294967296 := by omega
  have h5 : (g.length : Int) ≤ 4294967296 := by omega
  rw [callI_eq]
  rcases hY with ⟨q, _⟩ | ⟨_, rfl, rfl⟩
  · exact absurd q hne2
  · simp [body1_eq _ _ (gp 91) g91, c91, a91, h1, hEl, hz, h4, h5, l0, l2]
end Go.Am
end
section
set_option maxRecDepth 10000
set_option maxHeartbeats 1000000
set_option linter.unusedSimpArgs false
set_option linter.unusedVariables false
namespace Go.Am
open Go.Proofs Go.Sort Go.Shelf
theorem eqMade (E : List PV) (g : Gr) (hE : EncR false E g) (hg : OkTo g) (hs : SmallG g) (h : 0 < g.length) :
    callI G 48 [.agg [.sl false 1 E]] [] = some (.tup [encG true true (made g).1, .b (made g).2], []) := by
  have h1 := eqPart E g hE hg hs h
  have hrl := reach_ne g 0
  have hpl : (partG g 0).length = (reach g 0).length := by simp [partG]
  unfold made
  rw [← hpl] at hrl ⊢
  generalize hP : partG g 0 = P at h1 hrl ⊢
  have hne : P ≠ [] := by intro e; rw [e] at hrl; cases hrl
  have he : encG true true P = .agg [.sl true 1 (encGs true true P)] := by simp [encG, encM', hne]
  rw [callI_eq]
  by_cases hc : P.length ≤ 60
  · have hc2 : ¬ (60 : Int) < P.length := by omega
    simp only [hc, if_true, he]
    simp [body1_eq _ _ (gp 48) g48, c48, a48, h1, hc, hc2]
  · have hc2 : (60 : Int) < P.length := by omega
    simp [body1_eq _ _ (gp 48) g48, c48, a48, h1, hc, hc2]
end Go.Am
end
section
set_option maxRecDepth 10000
set_option maxHeartbeats 1000000
set_option linter.unusedSimpArgs false
set_option linter.unusedVariables false
namespace Go.Am
open Go.Proofs Go.Sort Go.Shelf
/-! spec.l4Has: a move with an action into a class -/
end Go.Am
end
section
set_option maxRecDepth 10000
set_option maxHeartbeats 1000000
set_option linter.unusedSimpArgs false
set_option linter.unusedVariables false
namespace Go.Am
open Go.Proofs Go.Sort Go.Shelf
/-! spec.l4Covers: each move is one of another state, too -/
end Go.Am
end
section
set_option maxRecDepth 10000
set_option maxHeartbeats 1000000
set_option linter.unusedSimpArgs false
set_option linter.unusedVariables false
namespace Go.Am
open Go.Proofs Go.Sort Go.Shelf
/-! spec.l4Next: one more round -/
end Go.Am
end
section
set_option maxRecDepth 10000
set_option maxHeartbeats 1000000
set_option linter.unusedSimpArgs false
set_option linter.unusedVariables false
namespace Go.Am
open Go.Proofs Go.Sort Go.Shelf
/-! spec.l4Same -/
end Go.Am
end
section
set_option maxRecDepth 10000
set_option maxHeartbeats 1000000
set_option linter.unusedSimpArgs false
set_option linter.unusedVariables false
namespace Go.Am
open Go.Proofs Go.Sort Go.Shelf
/-! spec.l4Rounds -/
end Go.Am
end
section
set_option linter.unusedSimpArgs false
set_option linter.unusedVariables false
namespace Go.Am
end Go.Am
end
section
set_option linter.unusedSimpArgs false
set_option linter.unusedVariables false
namespace Go.Am
/-! The rounds stop: roots stay, and each round that changes something makes a new one. -/
end Go.Am
end
section
set_option maxRecDepth 10000
set_option maxHeartbeats 1000000
set_option linter.unusedSimpArgs false
set_option linter.unusedVariables false
namespace Go.Am
open Go.Proofs Go.Sort Go.Shelf
/-! impl.alikeRounds's marks -/
end Go.Am
end
section
set_option maxRecDepth 10000
set_option maxHeartbeats 1000000
set_option linter.unusedSimpArgs false
set_option linter.unusedVariables false
namespace Go.Am
open Go.Proofs Go.Sort Go.Shelf
/-! slices.Equal at moves and at numbers -/
end Go.Am
end
section
set_option maxRecDepth 10000
set_option maxHeartbeats 1000000
set_option linter.unusedSimpArgs false
set_option linter.unusedVariables false
namespace Go.Am
open Go.Proofs Go.Sort Go.Shelf
theorem SmallG.fit {g : Gr} (h : SmallG g) : FitG g := ⟨by have := h.1; omega, fun l hl => by have := h.2 l hl; omega⟩
theorem tidyL_len (l : List Mv) : (tidyL l).length ≤ l.length := by
  have h : (srtM l).length = l.length := by simp [srtM]
  unfold tidyL
  cases hs : srtM l with
  | nil => simp [dd]
  | cons x r =>
    rw [hs] at h
    have := ddup_len x r
    simp only [dd, List.length_cons] at h ⊢
    omega
theorem made_small {g : Gr} (h : SmallG g) : SmallG (made g).1 := by
  unfold made
  split
  · rename_i hc
    refine ⟨by show (partG g 0).length ≤ _; simp [partG]; omega, fun l hl => ?_⟩
    simp only [partG, List.mem_map] at hl
    obtain ⟨r, _, rfl⟩ := hl
    refine Nat.le_trans (tidyL_len _) ?_
    rw [reT_len]
    by_cases hi : r.toNat < g.length
    · rw [List.getD_eq_getElem?_getD, List.getElem?_eq_getElem hi, Option.getD_some]
      exact h.2 _ (List.getElem_mem hi)
    · rw [List.getD_eq_getElem?_getD, List.getElem?_eq_none (by omega)]; simp
  · exact ⟨by simp, fun l hl => by cases hl⟩
theorem encM_ne {nl u : Bool} {g : Gr} (h : g ≠ []) : encM' nl u g = .sl u 1 (encGs nl u g) := by
  unfold encM'
  split
  · rename_i k; simp only [Bool.and_eq_true, List.isEmpty_iff] at k; exact absurd k.2 h
  · rfl
end Go.Am
end
section
set_option maxRecDepth 10000
set_option maxHeartbeats 1000000
set_option linter.unusedSimpArgs false
set_option linter.unusedVariables false
namespace Go.Am
open Go.Proofs Go.Sort Go.Shelf
/-! impl.refine -/
end Go.Am
end
section
set_option maxRecDepth 10000
set_option maxHeartbeats 1000000
set_option linter.unusedSimpArgs false
set_option linter.unusedVariables false
namespace Go.Am
open Go.Proofs Go.Sort Go.Shelf
/-! impl.rounds, impl.alikeRounds, impl.alikeClasses; spec.l4Rounds, spec.l4Classes -/
end Go.Am
end
section
set_option linter.unusedSimpArgs false
set_option linter.unusedVariables false
namespace Go.Am
/-! The classes don't depend on how the states are numbered. -/
/-! The least state of g that is like an unknown. -/
end Go.Am
end
section
set_option maxRecDepth 10000
set_option maxHeartbeats 1000000
set_option linter.unusedSimpArgs false
set_option linter.unusedVariables false
namespace Go.Am
open Go.Proofs Go.Sort Go.Shelf
/-! impl.GraphSum -/
/-! rows of graphs that are ones are short -/
end Go.Am
end
section
set_option maxRecDepth 10000
set_option maxHeartbeats 1000000
set_option linter.unusedSimpArgs false
set_option linter.unusedVariables false
namespace Go.Am
open Go.Proofs Go.Sort Go.Shelf
/-! slices.IndexFunc and slices.DeleteFunc at moves, with a closure over one box of an outer frame -/
def CloOK (cf : Nat) (cid : Id) (B : List PV) (F : Mv → Bool) : Prop :=
  ∀ (o : Stack) (x : Mv), cid.1 < o.length → getS o cid = some (.box B) → callI G cf [mvP x, .ref cid 1 0 0] o = some (.b (F x), o)
theorem loopIx (cf : Nat) (cid : Id) (B : List PV) (F : Mv → Bool) (hc : CloOK cf cid B F) (id : Id) (l : List Mv) (o : Stack) (hid : id.1 < o.length) (hg : getS o id = some (.row 2 (l.map mvP))) (hcid : cid.1 < o.length) (hB : getS o cid = some (.box B)) (hN : l.length ≤ 4611686018427387904) : ∀ (rest done : List Mv), l = done ++ rest →
    (∃ a x b, rest = a ++ x :: b ∧ (∀ y ∈ a, F y = false) ∧ F x = true ∧ loopI G [0, 1, 7, 8] [] c95l0 ⟨[(0, .own id l.length), (1, .clo cf [.ref cid 1 0 0]), (7, .i l.length), (8, .i done.length)], [], o⟩ = some (.ret, ⟨[(4, .i (done ++ a).length)], [], o⟩)) ∨
    ((∀ y ∈ rest, F y = false) ∧ loopI G [0, 1, 7, 8] [] c95l0 ⟨[(0, .own id l.length), (1, .clo cf [.ref cid 1 0 0]), (7, .i l.length), (8, .i done.length)], [], o⟩ = some (.exit 0, ⟨[(0, .own id l.length), (1, .clo cf [.ref cid 1 0 0]), (7, .i l.length), (8, .i l.length), (9, .b false)], [], o⟩))
  | [], done, hd => by
    rw [List.append_nil] at hd
    subst hd
    have hne : ¬ id.1 = o.length := by omega
    have hne2 : ¬ cid.1 = o.length := by omega
    refine .inr ⟨fun y hy => (by cases hy), ?_⟩
    rw [loopI_eq]
    simp [-St.get, -St.set, r95l0, b95l0, hne, hne2]
  | x :: rest, done, hd => by
    have hne : ¬ id.1 = o.length := by omega
    have hne2 : ¬ cid.1 = o.length := by omega
    have hget : ∀ r l', St.get ⟨r, l', o⟩ id = some (.row 2 (l.map mvP)) := fun r l' => by rw [get_low hid, hg]
    have hgetc : ∀ r l', St.get ⟨r, l', o⟩ cid = some (.box B) := fun r l' => by rw [get_low hcid, hB]
    have hll : l.length = done.length + (rest.length + 1) := by rw [hd]; simp
    have hlt : (done.length : Int) < l.length := by omega
    have hlt2 : done.length < l.length := by omega
    have hw : IntKind.i64.wrap ((done.length : Int) + 1) = (done.length : Int) + 1 := wr (by omega)
    have hat : nth (l.map mvP) done.length = some (mvP x) := by rw [hd]; exact mv_at done x rest
    have hml : (l.map mvP).length = l.length := by simp
    have hcx := hc (o ++ [[]]) x (by simp; omega) (by rw [getS_app _ _ _ hcid]; exact hB)
    simp only [mvP] at hat hcx
    cases hF : F x with
    | true =>
      rw [hF] at hcx
      refine .inl ⟨[], x, rest, rfl, (fun y hy => by cases hy), hF, ?_⟩
      generalize hM : l.map mvP = M at hat hml hget
      rw [loopI_eq]
      simp [-St.get, -St.set, r95l0, b95l0, hne, hne2, hget, hgetc, hlt, hlt2, hml, hat, hcx]
    | false =>
      rw [hF] at hcx
      have ih := loopIx cf cid B F hc id l o hid hg hcid hB hN rest (done ++ [x]) (by simpa using hd)
      simp only [List.length_append, List.length_cons, List.length_nil, Int.natCast_add, show ((0 + 1 : Nat) : Int) = 1 from rfl] at ih
      rcases ih with ⟨a, z, b, h1, h2, h3, h4⟩ | ⟨h1, h2⟩
      · refine .inl ⟨x :: a, z, b, by rw [h1]; rfl, fun y hy => ?_, h3, ?_⟩
        · rcases List.mem_cons.1 hy with rfl | hy
          · exact hF
          · exact h2 y hy
        · generalize hM : l.map mvP = M at hat hml hget
          rw [loopI_eq]
          simp [-St.get, -St.set, r95l0, b95l0, hne, hne2, hget, hgetc, hlt, hlt2, hml, hat, hcx, hw]
          simpa [Int.add_assoc, Int.add_comm 1] using h4
      · refine .inr ⟨fun y hy => ?_, ?_⟩
        · rcases List.mem_cons.1 hy with rfl | hy
          · exact hF
          · exact h1 y hy
        · generalize hM : l.map mvP = M at hat hml hget
          rw [loopI_eq]
          simp [-St.get, -St.set, r95l0, b95l0, hne, hne2, hget, hgetc, hlt, hlt2, hml, hat, hcx, hw]
          simpa using h2
theorem eqIx (cf : Nat) (cid : Id) (B : List PV) (F : Mv → Bool) (hc : CloOK cf cid B F) (id : Id) (l : List Mv) (o : Stack) (hid : id.1 < o.length) (hg : getS o id = some (.row 2 (l.map mvP))) (hcid : cid.1 < o.length) (hB : getS o cid = some (.box B)) (hN : l.length ≤ 4611686018427387904) :
    (∃ a x b, l = a ++ x :: b ∧ (∀ y ∈ a, F y = false) ∧ F x = true ∧ callI G 95 [.own id l.length, .clo cf [.ref cid 1 0 0]] o = some (.i a.length, o)) ∨
    ((∀ y ∈ l, F y = false) ∧ callI G 95 [.own id l.length, .clo cf [.ref cid 1 0 0]] o = some (.i (-1), o)) := by
  have hne : ¬ id.1 = o.length := by omega
  have hne2 : ¬ cid.1 = o.length := by omega
  have hget : ∀ r l', St.get ⟨r, l', o⟩ id = some (.row 2 (l.map mvP)) := fun r l' => by rw [get_low hid, hg]
  have hml : (l.map mvP).length = l.length := by simp
  rcases loopIx cf cid B F hc id l o hid hg hcid hB hN l [] rfl with ⟨a, x, b, h1, h2, h3, h4⟩ | ⟨h1, h2⟩
  · refine .inl ⟨a, x, b, h1, h2, h3, ?_⟩
    rw [List.nil_append] at h4
    simp only [List.length_nil, show ((0 : Nat) : Int) = 0 from rfl] at h4
    generalize hM : l.map mvP = M at hml hget
    rw [callI_eq]
    simp [-St.get, -St.set, body1_eq _ _ (gp 95) g95, c95, a95, hne, hne2, hget, hml, hid, hcid, h4]
  · refine .inr ⟨h1, ?_⟩
    simp only [List.length_nil, show ((0 : Nat) : Int) = 0 from rfl] at h2
    generalize hM : l.map mvP = M at hml hget
    rw [callI_eq]
    simp [-St.get, -St.set, body1_eq _ _ (gp 95) g95, c95, a95, hne, hne2, hget, hml, hid, hcid, h2]
end Go.Am
end
section
set_option maxRecDepth 10000
set_option maxHeartbeats 1000000
set_option linter.unusedSimpArgs false
set_option linter.unusedVariables false
namespace Go.Am
open Go.Proofs Go.Sort Go.Shelf
theorem getS_ne {o : Stack} {id cid : Id} {R : OB} (h : id.1 < o.length) (hn : cid ≠ id) : getS (setS o id R) cid = getS o cid := by
  rw [← gt_getS, gt_setS h, ← gt_getS]
  simp [upd, hn]
theorem loopDl (cf : Nat) (cid : Id) (B : List PV) (F : Mv → Bool) (hc : CloOK cf cid B F) (id : Id) (hci : cid ≠ id) (N : Nat) (hN : N ≤ 4611686018427387904) : ∀ (rest K M : List Mv) (o : Stack), id.1 < o.length → getS o id = some (.row 2 ((K ++ (M ++ rest)).map mvP)) → cid.1 < o.length → getS o cid = some (.box B) → M ≠ [] → N = K.length + M.length + rest.length →
    ∃ Z : List Mv, Z.length = N - (K ++ rest.filter (fun y => !F y)).length ∧ loopI G [0, 1, 5, 6] [] c55l0 ⟨[(0, .own id N), (1, .clo cf [.ref cid 1 0 0]), (5, .i K.length), (6, .i (K.length + M.length))], [], o⟩ =
      some (.exit 0, ⟨[(0, .own id N), (1, .clo cf [.ref cid 1 0 0]), (5, .i (K ++ rest.filter (fun y => !F y)).length), (6, .i N), (19, .b false)], [], setS o id (.row 2 (((K ++ rest.filter (fun y => !F y)) ++ Z).map mvP))⟩)
  | [], K, M, o, hid, hg, hcid, hB, hM, hl => by
    have hne : ¬ id.1 = o.length := by omega
    have hne2 : ¬ cid.1 = o.length := by omega
    simp only [List.append_nil, List.length_nil, Nat.add_zero] at hg hl
    refine ⟨M, by simp; omega, ?_⟩
    have e2 : setS o id (.row 2 (((K ++ ([] : List Mv).filter (fun y => !F y)) ++ M).map mvP)) = o := setS_same o id _ (by simpa using hg)
    have hget : ∀ r l', St.get ⟨r, l', o⟩ id = some (.row 2 ((K ++ M).map mvP)) := fun r l' => by rw [get_low hid, hg]
    have hml : ((K ++ M).map mvP).length = N := by simp; omega
    have hki : (K.length : Int) + M.length = N := by omega
    rw [e2, hki]
    generalize hX : (K ++ M).map mvP = X at hget hml
    rw [loopI_eq]
    simp [-St.get, -St.set, r55l0, b55l0, hne, hne2, hget, hml]
  | y :: rest, K, M, o, hid, hg, hcid, hB, hM, hl => by
    simp only [List.length_cons] at hl
    have hne : ¬ id.1 = o.length := by omega
    have hne2 : ¬ cid.1 = o.length := by omega
    have hget : ∀ r l', St.get ⟨r, l', o⟩ id = some (.row 2 ((K ++ (M ++ y :: rest)).map mvP)) := fun r l' => by rw [get_low hid, hg]
    have hgetc : ∀ r l', St.get ⟨r, l', o⟩ cid = some (.box B) := fun r l' => by rw [get_low hcid, hB]
    have hset : ∀ r l' R, St.set ⟨r, l', o⟩ id R = ⟨r, l', setS o id R⟩ := fun r l' R => set_low hid
    have hml : ((K ++ (M ++ y :: rest)).map mvP).length = N := by simp; omega
    have hM0 : 0 < M.length := List.length_pos_iff.2 hM
    have hlt : (K.length : Int) + M.length < N := by omega
    have hltK : (K.length : Int) < N := by omega
    have hge : (0 : Int) ≤ (K.length : Int) + M.length := by omega
    have htn : ((K.length : Int) + M.length).toNat = K.length + M.length := by omega
    have hw : IntKind.i64.wrap ((K.length : Int) + M.length + 1) = (K.length : Int) + M.length + 1 := wr (by omega)
    have hwK : IntKind.i64.wrap ((K.length : Int) + 1) = (K.length : Int) + 1 := wr (by omega)
    have hat : nth ((K ++ (M ++ y :: rest)).map mvP) (K.length + M.length) = some (mvP y) := by
      have := mv_at (K ++ M) y rest
      simpa using this
    have hcx := hc (o ++ [[]]) y (by simp; omega) (by rw [getS_app _ _ _ hcid]; exact hB)
    simp only [mvP] at hat hcx
    cases hF : F y with
    | true =>
      rw [hF] at hcx
      obtain ⟨Z, hZ, hn⟩ := loopDl cf cid B F hc id hci N hN rest K (M ++ [y]) o hid (by simpa using hg) hcid hB (by simp) (by simp; omega)
      have hfl : (y :: rest).filter (fun y => !F y) = rest.filter (fun y => !F y) := by simp [hF]
      rw [hfl]
      refine ⟨Z, hZ, ?_⟩
      simp only [List.length_append, List.length_cons, List.length_nil, Int.natCast_add, show ((0 + 1 : Nat) : Int) = 1 from rfl] at hn ⊢
      generalize hX : (K ++ (M ++ y :: rest)).map mvP = X at hget hml hat
      generalize hR : OB.row 2 ((K ++ rest.filter (fun y => !F y) ++ Z).map mvP) = R at hn ⊢
      rw [loopI_eq]
      simp [-St.get, -St.set, r55l0, b55l0, hne, hne2, hget, hgetc, hml, hlt, hge, htn, hat, hcx, hw, get_own, set_own]
      simpa [Int.add_assoc] using hn
    | false =>
      rw [hF] at hcx
      obtain ⟨m, M', hMc⟩ : ∃ m M', M = m :: M' := by cases M with | nil => exact absurd rfl hM | cons m M' => exact ⟨m, M', rfl⟩
      have hrow : ((K ++ (M ++ y :: rest)).map mvP).set K.length (mvP y) = ((K ++ [y]) ++ ((M' ++ [y]) ++ rest)).map mvP := by
        rw [hMc]
        simp
      have hatK : nth ((K ++ (M ++ y :: rest)).map mvP) K.length = some (mvP m) := by rw [hMc]; exact mv_at K m (M' ++ y :: rest)
      have hMl : M.length = M'.length + 1 := by rw [hMc]; simp
      obtain ⟨Z, hZ, hn⟩ := loopDl cf cid B F hc id hci N hN rest (K ++ [y]) (M' ++ [y]) (setS o id (.row 2 (((K ++ [y]) ++ ((M' ++ [y]) ++ rest)).map mvP))) (by rw [setS_len]; exact hid) (by rw [getS_setS hid]) (by rw [setS_len]; exact hcid) (by rw [getS_ne hid hci]; exact hB) (by simp) (by simp; omega)
      rw [setS_setS] at hn
      have hfl : K ++ (y :: rest).filter (fun y => !F y) = (K ++ [y]) ++ rest.filter (fun y => !F y) := by simp [hF]
      rw [hfl]
      refine ⟨Z, hZ, ?_⟩
      have hkk : ((K ++ [y]).length : Int) + ((M' ++ [y]).length : Int) = (K.length : Int) + M.length + 1 := by simp; omega
      have hk1 : ((K ++ [y]).length : Int) = (K.length : Int) + 1 := by simp
      rw [hkk, hk1] at hn
      simp only [mvP] at hrow hatK
      generalize hX : (K ++ (M ++ y :: rest)).map mvP = X at hget hml hat hrow hatK
      generalize hR : OB.row 2 ((K ++ [y] ++ rest.filter (fun y => !F y) ++ Z).map mvP) = R at hn ⊢
      generalize hX2 : (K ++ [y] ++ (M' ++ [y] ++ rest)).map mvP = X2 at hrow hn
      rw [loopI_eq]
      simp [-St.get, -St.set, r55l0, b55l0, hne, hne2, hget, hgetc, hset, hml, hlt, hltK, hge, htn, hat, hatK, hcx, hw, hwK, unAgg, hrow, setS_len, get_own, set_own]
      simpa [Int.add_assoc] using hn
end Go.Am
end
section
set_option maxRecDepth 10000
set_option maxHeartbeats 1000000
set_option linter.unusedSimpArgs false
set_option linter.unusedVariables false
namespace Go.Am
open Go.Proofs Go.Sort Go.Shelf
theorem filter_all {F : Mv → Bool} : ∀ {l : List Mv}, (∀ y ∈ l, F y = false) → l.filter (fun y => !F y) = l
  | [], _ => rfl
  | x :: l, h => by
    have h1 := h x List.mem_cons_self
    simp [h1]
    intro a b hab
    exact h (a, b) (List.mem_cons_of_mem _ hab)
theorem eqDelete (cf : Nat) (cid : Id) (B : List PV) (F : Mv → Bool) (hc : CloOK cf cid B F) (id : Id) (hci : cid ≠ id) (l : List Mv) (o : Stack) (hid : id.1 < o.length) (hg : getS o id = some (.row 2 (l.map mvP))) (hcid : cid.1 < o.length) (hB : getS o cid = some (.box B)) (hN : l.length ≤ 4611686018427387904) :
    (l.filter (fun y => !F y) = l ∧ callI G 55 [.own id l.length, .clo cf [.ref cid 1 0 0]] o = some (.own id l.length, o)) ∨
    callI G 55 [.own id l.length, .clo cf [.ref cid 1 0 0]] o = some (.sl true 2 ((l.filter (fun y => !F y)).map mvP), setS o id .dead) := by
  have hne : ¬ id.1 = o.length := by omega
  have hne2 : ¬ cid.1 = o.length := by omega
  have hix := eqIx cf cid B F hc id l (o ++ [[]]) (by simp; omega) (by rw [getS_app _ _ _ hid]; exact hg) (by simp; omega) (by rw [getS_app _ _ _ hcid]; exact hB) hN
  rw [callI_eq]
  rcases hix with ⟨a, x, b, h1, h2, h3, h4⟩ | ⟨h1, h2⟩
  · refine .inr ?_
    have hll : l.length = a.length + (b.length + 1) := by rw [h1]; simp
    obtain ⟨Z, hZ, hn⟩ := loopDl cf cid B F hc id hci l.length hN b a [x] o hid (by rw [hg, h1]; simp) hcid hB (by simp) (by simp; omega)
    have hK : a ++ b.filter (fun y => !F y) = l.filter (fun y => !F y) := by
      rw [h1, List.filter_append, filter_all h2]; simp [h3]
    rw [hK] at hZ hn
    have hKl : (l.filter (fun y => !F y)).length ≤ l.length := List.length_filter_le _ _
    generalize hKK : l.filter (fun y => !F y) = K at hZ hn hKl ⊢
    obtain ⟨o2, ho2⟩ : ∃ o2, setS o id (.row 2 ((K ++ Z).map mvP)) = o2 := ⟨_, rfl⟩
    rw [ho2] at hn
    have hl2 : o2.length = o.length := by rw [← ho2, setS_len]
    have hget3 : ∀ r l, St.get ⟨r, l, o2⟩ id = some (.row 2 ((K ++ Z).map mvP)) := fun r l => by rw [← ho2, get_low (by rw [setS_len]; exact hid), getS_setS hid]
    have hset3 : ∀ r l R, St.set ⟨r, l, o2⟩ id R = ⟨r, l, setS o id R⟩ := fun r l R => by rw [← ho2, set_low (by rw [setS_len]; exact hid), setS_setS]
    have hset4 : ∀ r l R R', St.set ⟨r, l, setS o id R'⟩ id R = ⟨r, l, setS o id R⟩ := fun r l R R' => by rw [set_low (by rw [setS_len]; exact hid), setS_setS]
    have hget4 : ∀ r l R, St.get ⟨r, l, setS o id R⟩ id = some R := fun r l R => by rw [get_low (by rw [setS_len]; exact hid), getS_setS hid]
    have hKZ : K.length + Z.length = l.length := by omega
    have hKN : l.length = K.length + (l.length - K.length) := by omega
    have hKi : (K.length : Int) ≤ l.length := by omega
    have hw : IntKind.i64.wrap ((a.length : Int) + 1) = (a.length : Int) + 1 := wr (by omega)
    have ha1 : ¬ ((a.length : Int) = -1) := by omega
    simp only [List.length_cons, List.length_nil, Nat.zero_add, show ((1 : Nat) : Int) = 1 from rfl] at hn
    generalize l.length = N at hn h4 hKl hKZ hKN hKi hll hN ⊢
    simp [-St.get, -St.set, body1_eq _ _ (gp 55) g55, c55, a55, hne, hne2, hid, hcid, h4, ha1, hw, hn, hl2, hget3, hset3, hset4, hget4, hKZ, hKi, setS_len, get_setS_top, set_setS_top, get_own, set_own]
    exact hKN
  · refine .inl ⟨filter_all h1, ?_⟩
    simp [-St.get, -St.set, body1_eq _ _ (gp 55) g55, c55, a55, hne, hne2, hid, hcid, h2]
/-! the name of an action; what is hidden -/
def nameI (a : Int) : Int := IntKind.i64.wrap ((if a < IntKind.i64.wrap (0 - a) then IntKind.i64.wrap (0 - a) else a) - 1)
theorem eqNameI (a : Int) : callI G 58 [.i a] [] = some (.i (nameI a), []) := by
  rw [callI_eq]
  simp [body1_eq _ _ (gp 58) g58, c58, a58, nameI]
theorem eqNameS (a : Int) : callI G 61 [.i a] [] = some (.i (nameI a), []) := by
  rw [callI_eq]
  simp [body1_eq _ _ (gp 61) g61, c61, a61, nameI]
def nameOk (n : Int) : Bool := decide (0 ≤ n) && decide (n < 4)
theorem eqNameOk (n : Int) : callI G 54 [.i n] [] = some (.b (nameOk n), []) := by
  rw [callI_eq]
  unfold nameOk
  by_cases h : 0 ≤ n <;> simp [body1_eq _ _ (gp 54) g54, c54, a54, h]
def hidF (n : Int) (x : Mv) : Bool := !decide (x.1 = 0) && decide (nameI x.1 = n)
theorem cloHide (cid : Id) (n : Int) : CloOK 57 cid [.i n] (hidF n) := by
  intro o x hcid hB
  have hne : ¬ cid.1 = o.length := by omega
  have hget : ∀ r l', St.get ⟨r, l', o⟩ cid = some (.box [.i n]) := fun r l' => by rw [get_low hcid, hB]
  have hnm := eqNameI x.1
  unfold hidF
  rw [callI_eq]
  by_cases h : x.1 = 0
  · simp [-St.get, -St.set, body1_eq _ _ (gp 57) g57, c57, a57, hcid, hne, hget, get_own, set_own, hnm, h, mvP]
  · simp [-St.get, -St.set, body1_eq _ _ (gp 57) g57, c57, a57, hcid, hne, hget, get_own, set_own, hnm, h, mvP]
def hideR (n : Int) (l : List Mv) : List Mv := l.filter fun y => !hidF n y
def hideG (n : Int) (g : Gr) : Gr := g.map (hideR n)
end Go.Am
end
section
set_option maxRecDepth 10000
set_option maxHeartbeats 1000000
set_option linter.unusedSimpArgs false
set_option linter.unusedVariables false
namespace Go.Am
open Go.Proofs Go.Sort Go.Shelf
/-! lists of truth values -/
def bools (l : List Bool) : List PV := l.map PV.b
@[simp] theorem bools_len (l : List Bool) : (bools l).length = l.length := by simp [bools]
@[simp] theorem fals_bools : ∀ l : List Bool, fals (bools l) = bools l
  | [] => rfl
  | x :: l => by
    have := fals_bools l
    simp only [bools, List.map_cons, fals] at this ⊢
    rw [this]; rfl
/-! marked truth values: the own row of an outer frame -/
/-! what is named -/
end Go.Am
end
section
set_option linter.unusedSimpArgs false
set_option linter.unusedVariables false
namespace Go.Am
/-! pairs of states -/
def lMN (nm : Int → Bool) (sync : Bool) (n : Nat) (m x : Mv) : List Mv :=
  if sync = true then (if x.1 = m.1 ∧ nm m.1 = true then [(m.1, m.2 * n + x.2)] else []) else (if m.1 ≠ 0 ∧ x.1 = -m.1 then [(0, m.2 * n + x.2)] else [])
def lM (nm : Int → Bool) (sync : Bool) (n t : Nat) (H : List Mv) (m : Mv) : List Mv := (if nm m.1 = true then [] else [(m.1, m.2 * n + t)]) ++ H.flatMap (lMN nm sync n m)
def lX (nm : Int → Bool) (n s : Nat) (x : Mv) : List Mv := if nm x.1 = true then [] else [(x.1, (s : Int) * n + x.2)]
def prL (nm : Int → Bool) (sync : Bool) (n s t : Nat) (Gs H : List Mv) : List Mv := Gs.flatMap (lM nm sync n t H) ++ H.flatMap (lX nm n s)
def prR (nm : Int → Bool) (sync : Bool) (g h : Gr) (s t : Nat) : List Mv := tidyL (prL nm sync h.length s t (g.getD s []) (h.getD t []))
def prRow (nm : Int → Bool) (sync : Bool) (g h : Gr) (s : Nat) (k : Nat) : Gr := (List.range k).map (prR nm sync g h s)
def prRows (nm : Int → Bool) (sync : Bool) (g h : Gr) : Nat → Gr
  | 0 => []
  | k + 1 => prRows nm sync g h k ++ prRow nm sync g h k h.length
def pairG (nm : Int → Bool) (sync : Bool) (g h : Gr) : Gr := prRows nm sync g h g.length
def pairs (nm : Int → Bool) (sync : Bool) (g h : Gr) : Gr × Bool := if grOk g && grOk h then made (pairG nm sync g h) else ([], false)
end Go.Am
end
section
set_option linter.unusedSimpArgs false
set_option linter.unusedVariables false
namespace Go.Am
/-! likeness of states by a relation that moves keep -/
/-! the states that one comes to are closed -/
theorem addNew_mem : ∀ (l : List Mv) (row : List Int), ∀ m ∈ l, m.2 ∈ addNew row l
  | m :: l, row, x, hx => by
    simp only [addNew]
    rcases List.mem_cons.1 hx with rfl | hx
    · obtain ⟨t, ht⟩ := addNew_pre l (if x.2 ∈ row then row else row ++ [x.2])
      rw [ht]
      refine List.mem_append.2 (.inl ?_)
      split
      · assumption
      · simp
    · exact addNew_mem l _ x hx
theorem bfs_closed {g : Gr} (hg : OkTo g) : ∀ (f i : Nat) (row : List Int), InN g.length row → i ≤ row.length → g.length + 1 ≤ i + f → (∀ j, j < i → ∀ m ∈ g.getD (row.getD j 0).toNat [], m.2 ∈ row) →
    ∀ x ∈ bfs g f i row, ∀ m ∈ g.getD x.toNat [], m.2 ∈ bfs g f i row
  | 0, i, row, h, hi, hf, hc => by
    have := h.len
    omega
  | f + 1, i, row, h, hi, hf, hc => by
    simp only [bfs]
    split
    · rename_i hlt
      obtain ⟨t, ht⟩ := addNew_pre (g.getD (row.getD i 0).toNat []) row
      have hpre : ∀ j, j < row.length → (addNew row (g.getD (row.getD i 0).toNat [])).getD j 0 = row.getD j 0 := fun j hj => by
        rw [ht, List.getD_eq_getElem?_getD, List.getD_eq_getElem?_getD, List.getElem?_append_left hj]
      refine bfs_closed hg f (i + 1) _ (h.add (hg.row _)) ?_ (by omega) fun j hj m hm => ?_
      · have := addNew_len (g.getD (row.getD i 0).toNat []) row
        omega
      · rw [hpre j (by omega)] at hm
        by_cases e : j = i
        · subst e
          exact addNew_mem _ _ m hm
        · rw [ht]
          exact List.mem_append.2 (.inl (hc j (by omega) m hm))
    · rename_i hge
      intro x hx m hm
      obtain ⟨j, hj, rfl⟩ := List.getElem_of_mem hx
      refine hc j (by omega) m ?_
      have e : row.getD j 0 = row[j] := by rw [List.getD_eq_getElem?_getD, List.getElem?_eq_getElem hj]; rfl
      rw [e]
      exact hm
theorem reach_closed {g : Gr} (hg : OkTo g) (h : 0 < g.length) : ∀ x ∈ reach g 0, ∀ m ∈ g.getD x.toNat [], m.2 ∈ reach g 0 :=
  bfs_closed hg _ 0 [0] (InN.one (by omega)) (by simp) (by omega) fun j hj => by omega
theorem bfs_pre (g : Gr) : ∀ (f i : Nat) (row : List Int), ∃ t, bfs g f i row = row ++ t
  | 0, i, row => ⟨[], by simp [bfs]⟩
  | f + 1, i, row => by
    simp only [bfs]
    split
    · obtain ⟨t, ht⟩ := addNew_pre (g.getD (row.getD i 0).toNat []) row
      obtain ⟨t2, ht2⟩ := bfs_pre g f (i + 1) (addNew row (g.getD (row.getD i 0).toNat []))
      exact ⟨t ++ t2, by rw [ht2, ht, List.append_assoc]⟩
    · exact ⟨[], by simp⟩
theorem reach_first (g : Gr) : (reach g 0).getD 0 0 = 0 ∧ 0 < (reach g 0).length := by
  obtain ⟨t, ht⟩ := bfs_pre g (g.length + 1) 0 [0]
  unfold reach
  rw [ht]
  simp
theorem atG_at (x : Int) : ∀ (row : List Int) (i : Nat), x ∈ row → ∃ j : Nat, j < row.length ∧ atG i row x = ((i + j : Nat) : Int) ∧ row.getD j 0 = x
  | y :: l, i, h => by
    simp only [atG]
    by_cases e : y = x
    · exact ⟨0, by simp, by simp [e], by simp [e]⟩
    · have hx : x ∈ l := by
        rcases List.mem_cons.1 h with h | h
        · exact absurd h.symm e
        · exact h
      obtain ⟨j, h1, h2, h3⟩ := atG_at x l (i + 1) hx
      exact ⟨j + 1, by simp; omega, by rw [if_neg e, h2]; congr 1; omega, by simpa using h3⟩
theorem atOf_at {x : Int} {row : List Int} (h : x ∈ row) : (atOf row x).toNat < row.length ∧ row.getD (atOf row x).toNat 0 = x := by
  obtain ⟨j, h1, h2, h3⟩ := atG_at x row 0 h
  unfold atOf
  rw [h2]
  have : (((0 + j : Nat) : Int)).toNat = j := by omega
  rw [this]
  exact ⟨h1, h3⟩
theorem part_row (g : Gr) {i : Nat} (h : i < (reach g 0).length) : (partG g 0).getD i [] = tidyL (reT (reach g 0) (g.getD ((reach g 0).getD i 0).toNat [])) := by
  unfold partG
  rw [List.getD_eq_getElem?_getD, List.getElem?_map, List.getElem?_eq_getElem h]
  simp [h]
theorem part_mem (g : Gr) {i : Nat} (h : i < (reach g 0).length) (z : Mv) : z ∈ (partG g 0).getD i [] ↔ ∃ m ∈ g.getD ((reach g 0).getD i 0).toNat [], z = (m.1, atOf (reach g 0) m.2) := by
  rw [part_row g h, (tidyL_sd _).2]
  unfold reT
  rw [List.mem_map]
  exact ⟨fun ⟨m, h1, h2⟩ => ⟨m, h1, h2.symm⟩, fun ⟨m, h1, h2⟩ => ⟨m, h1, h2.symm⟩⟩
theorem part_len (g : Gr) : (partG g 0).length = (reach g 0).length := by simp [partG]
/-! pairs, turned -/
end Go.Am
end
section
set_option maxHeartbeats 2000000
set_option linter.unusedSimpArgs false
set_option linter.unusedVariables false
namespace Go.Am
open Go.Proofs Go.Sort Go.Shelf
/-! a graph that is numbered anew is numbered anew as it stands -/
def iota (k : Nat) : List Int := (List.range k).map fun i : Nat => (i : Int)
@[simp] theorem iota_len (k : Nat) : (iota k).length = k := by simp [iota]
theorem iota_succ (k : Nat) : iota (k + 1) = iota k ++ [(k : Int)] := by simp [iota, List.range_succ]
theorem iota_mem {k : Nat} {x : Int} : x ∈ iota k ↔ 0 ≤ x ∧ x < k := by
  unfold iota
  rw [List.mem_map]
  constructor
  · rintro ⟨i, hi, rfl⟩
    rw [List.mem_range] at hi
    omega
  · rintro ⟨h1, h2⟩
    exact ⟨x.toNat, by rw [List.mem_range]; omega, by omega⟩
theorem iota_at {k i : Nat} (h : i < k) : (iota k).getD i 0 = (i : Int) := by
  simp [iota, List.getD_eq_getElem?_getD, h]
theorem addNew_iota : ∀ (L : List Mv) (k k' : Nat), k ≤ k' → (∀ m ∈ L, 0 ≤ m.2 ∧ m.2 < k') → (∀ v : Nat, k ≤ v → v < k' → ∃ m ∈ L, m.2 = (v : Int)) →
    (∀ (A B : List Mv) (y : Mv), L = A ++ y :: B → ∀ u : Nat, k ≤ u → (u : Int) < y.2 → ∃ a ∈ A, a.2 = (u : Int)) → addNew (iota k) L = iota k'
  | [], k, k', hk, hm, ha, hb => by
    have : k = k' := by
      rcases Nat.lt_or_eq_of_le hk with h | h
      · obtain ⟨m, hm, _⟩ := ha k (Nat.le_refl _) h
        cases hm
      · exact h
    rw [this]; rfl
  | m :: L, k, k', hk, hm, ha, hb => by
    have hm0 := hm m List.mem_cons_self
    simp only [addNew]
    by_cases hlt : m.2 < k
    · rw [if_pos (iota_mem.2 ⟨hm0.1, hlt⟩)]
      refine addNew_iota L k k' hk (fun y hy => hm y (List.mem_cons_of_mem _ hy)) (fun v h1 h2 => ?_) (fun A B y e u h1 h2 => ?_)
      · obtain ⟨y, hy, e⟩ := ha v h1 h2
        rcases List.mem_cons.1 hy with rfl | hy
        · omega
        · exact ⟨y, hy, e⟩
      · obtain ⟨a, haA, e2⟩ := hb (m :: A) B y (by rw [e]; rfl) u h1 h2
        rcases List.mem_cons.1 haA with rfl | haA
        · omega
        · exact ⟨a, haA, e2⟩
    · have e : m.2 = (k : Int) := by
        rcases Int.lt_or_eq_of_le (show (k : Int) ≤ m.2 by omega) with h | h
        · obtain ⟨a, ha, _⟩ := hb [] L m rfl k (Nat.le_refl _) h
          cases ha
        · exact h.symm
      rw [if_neg (fun h => by have := (iota_mem.1 h).2; omega), e, ← iota_succ]
      refine addNew_iota L (k + 1) k' (by omega) (fun y hy => hm y (List.mem_cons_of_mem _ hy)) (fun v h1 h2 => ?_) (fun A B y e3 u h1 h2 => ?_)
      · obtain ⟨y, hy, e2⟩ := ha v (by omega) h2
        rcases List.mem_cons.1 hy with rfl | hy
        · omega
        · exact ⟨y, hy, e2⟩
      · obtain ⟨a, haA, e2⟩ := hb (m :: A) B y (by rw [e3]; rfl) u (by omega) h2
        rcases List.mem_cons.1 haA with rfl | haA
        · omega
        · exact ⟨a, haA, e2⟩
theorem getD_app {a b : List Int} {j : Nat} (h : j < a.length) : (a ++ b).getD j 0 = a.getD j 0 := by
  rw [List.getD_eq_getElem?_getD, List.getD_eq_getElem?_getD, List.getElem?_append_left h]
/-- A list without doubles: places are told apart by what stands there. -/
theorem nodup_at {l : List Int} (h : l.Nodup) {i j : Nat} (hi : i < l.length) (hj : j < l.length) (e : l.getD i 0 = l.getD j 0) : i = j := by
  rw [List.getD_eq_getElem?_getD, List.getElem?_eq_getElem hi, List.getD_eq_getElem?_getD, List.getElem?_eq_getElem hj] at e
  simp only [Option.getD_some] at e
  have hp := List.pairwise_iff_getElem.1 h
  rcases Nat.lt_trichotomy i j with c | c | c
  · exact absurd e (hp i j hi hj c)
  · exact c
  · exact absurd e.symm (hp j i hj hi c)
/-- What is added stands in the order of the moves' acts. -/
theorem addNew_ord {n : Nat} : ∀ (l : List Mv) (R : List Int), InN n R → (∀ m ∈ l, 0 ≤ m.2 ∧ m.2 < n) → Sd l → ∀ v : Nat, R.length ≤ v → v < (addNew R l).length →
    (∃ m ∈ l, m.2 = (addNew R l).getD v 0) ∧ ∀ u : Nat, R.length ≤ u → u < v → ∀ m ∈ l, m.2 = (addNew R l).getD v 0 → ∃ m' ∈ l, m'.2 = (addNew R l).getD u 0 ∧ m'.1 ≤ m.1
  | [], R, hR, hl, hs, v, h1, h2 => by simp only [addNew] at h2; omega
  | x :: l, R, hR, hl, hs, v, h1, h2 => by
    have hs' : Sd l := (List.pairwise_cons.1 hs).2
    have hx : ∀ m ∈ l, x.1 ≤ m.1 := fun m hm => by
      have := (ltM_iff x m).1 ((List.pairwise_cons.1 hs).1 m hm)
      omega
    have hl' : ∀ m ∈ l, 0 ≤ m.2 ∧ m.2 < n := fun m hm => hl m (List.mem_cons_of_mem _ hm)
    simp only [addNew] at h2 ⊢
    by_cases hin : x.2 ∈ R
    · rw [if_pos hin] at h2 ⊢
      obtain ⟨a, b⟩ := addNew_ord l R hR hl' hs' v h1 h2
      have hN := (hR.add hl').1
      obtain ⟨t, ht⟩ := addNew_pre l R
      -- x leads to a state that was there
      have hxv : x.2 ≠ (addNew R l).getD v 0 := by
        intro e
        obtain ⟨j, hj, e2⟩ := List.getElem_of_mem hin
        have hj2 : (addNew R l).getD j 0 = x.2 := by
          rw [ht, getD_app hj, List.getD_eq_getElem?_getD, List.getElem?_eq_getElem hj]
          exact e2
        have hlen : (addNew R l).length = R.length + t.length := by rw [ht]; simp
        have := nodup_at hN (i := j) (j := v) (by omega) h2 (by rw [hj2, e])
        omega
      refine ⟨?_, fun u hu1 hu2 m hm e => ?_⟩
      · obtain ⟨m, hm, e⟩ := a
        exact ⟨m, List.mem_cons_of_mem _ hm, e⟩
      · rcases List.mem_cons.1 hm with rfl | hm
        · exact absurd e hxv
        · obtain ⟨m', h3, h4⟩ := b u hu1 hu2 m hm e
          exact ⟨m', List.mem_cons_of_mem _ h3, h4⟩
    · rw [if_neg hin] at h2 ⊢
      have hR' : InN n (R ++ [x.2]) := by
        have := hR.add (l := [x]) (fun m hm => by rw [List.mem_singleton] at hm; subst hm; exact hl m List.mem_cons_self)
        simpa [addNew, hin] using this
      have hN := (hR'.add hl').1
      obtain ⟨t, ht⟩ := addNew_pre l (R ++ [x.2])
      have hlen : (addNew (R ++ [x.2]) l).length = R.length + 1 + t.length := by rw [ht]; simp; omega
      have hk : (addNew (R ++ [x.2]) l).getD R.length 0 = x.2 := by
        rw [ht, getD_app (by simp)]
        simp [List.getD_eq_getElem?_getD]
      by_cases hv : v = R.length
      · subst hv
        refine ⟨⟨x, List.mem_cons_self, hk.symm⟩, fun u hu1 hu2 => by omega⟩
      · obtain ⟨a, b⟩ := addNew_ord l (R ++ [x.2]) hR' hl' hs' v (by simp; omega) h2
        have hxv : x.2 ≠ (addNew (R ++ [x.2]) l).getD v 0 := by
          intro e
          have := nodup_at hN (i := R.length) (j := v) (by omega) h2 (hk.trans e)
          omega
        refine ⟨?_, fun u hu1 hu2 m hm e => ?_⟩
        · obtain ⟨m, hm, e⟩ := a
          exact ⟨m, List.mem_cons_of_mem _ hm, e⟩
        · have hm : m ∈ l := by
            rcases List.mem_cons.1 hm with rfl | hm
            · exact absurd e hxv
            · exact hm
          by_cases hu : u = R.length
          · subst hu
            exact ⟨x, List.mem_cons_self, hk.symm, hx m hm⟩
          · obtain ⟨m', h3, h4⟩ := b u (by simp; omega) hu2 m hm e
            exact ⟨m', List.mem_cons_of_mem _ h3, h4⟩
/-- One row's states, in the new numbers. -/
theorem addNew_anew {n : Nat} {l : List Mv} {R row : List Int} (hR : InN n R) (hl : ∀ m ∈ l, 0 ≤ m.2 ∧ m.2 < n) (hs : Sd l) (hrow : row.Nodup) (t : List Int) (ht : row = addNew R l ++ t) :
    addNew (iota R.length) (tidyL (reT row l)) = iota (addNew R l).length := by
  obtain ⟨hSd, hmem⟩ := tidyL_sd (reT row l)
  have hat : ∀ m ∈ l, ∃ j : Nat, j < (addNew R l).length ∧ atOf row m.2 = (j : Int) ∧ (addNew R l).getD j 0 = m.2 := by
    intro m hm
    have hin : m.2 ∈ addNew R l := addNew_mem l R m hm
    obtain ⟨j, hj, e⟩ := List.getElem_of_mem hin
    have hgj : (addNew R l).getD j 0 = m.2 := by rw [List.getD_eq_getElem?_getD, List.getElem?_eq_getElem hj]; exact e
    obtain ⟨j2, h1, h2, h3⟩ := atG_at m.2 row 0 (by rw [ht]; exact List.mem_append_left _ hin)
    have : j2 = j := by
      have hlen : row.length = (addNew R l).length + t.length := by rw [ht]; simp
      refine nodup_at hrow h1 (by omega) ?_
      rw [h3, ht, getD_app hj, hgj]
    subst this
    exact ⟨j2, hj, by unfold atOf; rw [h2]; congr 1; omega, hgj⟩
  have hz : ∀ z ∈ tidyL (reT row l), ∃ m ∈ l, z = (m.1, atOf row m.2) := fun z hz => by
    have := (hmem z).1 hz
    unfold reT at this
    obtain ⟨m, hm, e⟩ := List.mem_map.1 this
    exact ⟨m, hm, e.symm⟩
  have hz' : ∀ m ∈ l, (m.1, atOf row m.2) ∈ tidyL (reT row l) := fun m hm => (hmem _).2 (by unfold reT; exact List.mem_map.2 ⟨m, hm, rfl⟩)
  refine addNew_iota _ _ _ (addNew_len l R) (fun z hzm => ?_) (fun v h1 h2 => ?_) (fun A B y e u h1 h2 => ?_)
  · obtain ⟨m, hm, rfl⟩ := hz z hzm
    obtain ⟨j, h1, h2, _⟩ := hat m hm
    dsimp only
    omega
  · obtain ⟨m, hm, e⟩ := (addNew_ord l R hR hl hs v h1 h2).1
    obtain ⟨j, j1, j2, j3⟩ := hat m hm
    have : j = v := nodup_at (hR.add hl).1 j1 h2 (by rw [j3, e])
    subst this
    exact ⟨_, hz' m hm, j2⟩
  · obtain ⟨m, hm, rfl⟩ := hz y (by rw [e]; simp)
    obtain ⟨j, j1, j2, j3⟩ := hat m hm
    dsimp only at h2
    rw [j2] at h2
    have huj : u < j := by omega
    obtain ⟨m', q1, q2, q3⟩ := (addNew_ord l R hR hl hs j (by omega) j1).2 u h1 huj m hm j3.symm
    obtain ⟨i, i1, i2, i3⟩ := hat m' q1
    have : i = u := nodup_at (hR.add hl).1 i1 (by omega) (by rw [i3, q2])
    subst this
    refine ⟨(m'.1, atOf row m'.2), ?_, i2⟩
    have hin := hz' m' q1
    have hlt : ltM (m'.1, atOf row m'.2) (m.1, atOf row m.2) = true := by
      rw [ltM_iff]
      dsimp only
      omega
    rw [e] at hin hSd
    rcases List.mem_append.1 hin with h | h
    · exact h
    · exfalso
      rcases List.mem_cons.1 h with h | h
      · rw [h] at hlt
        have := (ltM_iff _ _).1 hlt
        omega
      · have h3 := (List.pairwise_cons.1 (List.pairwise_append.1 hSd).2.1).1 _ h
        have := (ltM_iff _ _).1 h3
        have := (ltM_iff _ _).1 hlt
        omega
/-- Rows in order, whose moves lead to states. -/
def SdG (g : Gr) : Prop := ∀ l ∈ g, Sd l
theorem SdG.row {g : Gr} (h : SdG g) (i : Nat) : Sd (g.getD i []) := by
  by_cases hi : i < g.length
  · rw [List.getD_eq_getElem?_getD, List.getElem?_eq_getElem hi, Option.getD_some]
    exact h _ (List.getElem_mem hi)
  · rw [List.getD_eq_getElem?_getD, List.getElem?_eq_none (by omega)]
    exact List.Pairwise.nil
theorem bfs_iota {g : Gr} (hg : OkTo g) (hs : SdG g) (row : List Int) (hrow : row.Nodup) (h : Gr) (hh : h.length = row.length) (hr : ∀ i, i < row.length → h.getD i [] = tidyL (reT row (g.getD (row.getD i 0).toNat []))) :
    ∀ (f f2 i : Nat) (R : List Int), InN g.length R → bfs g f i R = row → g.length + 1 ≤ i + f → h.length + 1 ≤ i + f2 → bfs h f2 i (iota R.length) = iota row.length
  | 0, f2, i, R, hR, e, hf, hf2 => by
    have := hR.len
    simp only [bfs] at e
    subst e
    cases f2 with
    | zero => simp [bfs]
    | succ f2 => simp only [bfs, iota_len]; rw [if_neg (by omega)]
  | f + 1, f2, i, R, hR, e, hf, hf2 => by
    simp only [bfs] at e
    by_cases hi : i < R.length
    · rw [if_pos hi] at e
      obtain ⟨t, ht⟩ := bfs_pre g f (i + 1) (addNew R (g.getD (R.getD i 0).toNat []))
      rw [e] at ht
      obtain ⟨t0, ht0⟩ := addNew_pre (g.getD (R.getD i 0).toNat []) R
      have hlen : R.length ≤ row.length := by rw [ht, ht0]; simp
      cases f2 with
      | zero => omega
      | succ f2 =>
        simp only [bfs, iota_len]
        rw [if_pos hi, iota_at hi]
        have hri : row.getD i 0 = R.getD i 0 := by rw [ht, ht0, List.append_assoc, getD_app hi]
        have hrw : h.getD (((i : Nat) : Int)).toNat [] = tidyL (reT row (g.getD (R.getD i 0).toNat [])) := by
          rw [show (((i : Nat) : Int)).toNat = i by omega, hr i (by omega), hri]
        rw [hrw, addNew_anew hR (hg.row _) (hs.row _) hrow t ht]
        exact bfs_iota hg hs row hrow h hh hr f f2 (i + 1) _ (hR.add (hg.row _)) e (by omega) (by omega)
    · rw [if_neg hi] at e
      subst e
      cases f2 with
      | zero => simp [bfs]
      | succ f2 => simp only [bfs, iota_len]; rw [if_neg hi]
theorem atOf_iota {n : Nat} {x : Int} (h : 0 ≤ x ∧ x < n) : atOf (iota n) x = x := by
  obtain ⟨j, h1, h2, h3⟩ := atG_at x (iota n) 0 (iota_mem.2 h)
  rw [iota_len] at h1
  rw [iota_at h1] at h3
  unfold atOf
  rw [h2]
  omega
theorem tidy_sd {l : List Mv} (h : Sd l) : tidyL l = l := Sd_uniq _ _ (tidyL_sd l).1 h (tidyL_sd l).2
theorem part_okTo {g : Gr} (hg : OkTo g) (h0 : 0 < g.length) : OkTo (partG g 0) := by
  intro l hl m hm
  unfold partG at hl
  obtain ⟨r, hr, rfl⟩ := List.mem_map.1 hl
  have hm2 := (tidyL_sd _).2 m |>.1 hm
  unfold reT at hm2
  obtain ⟨m0, hm0, rfl⟩ := List.mem_map.1 hm2
  have hc := reach_closed hg h0 r hr m0 hm0
  obtain ⟨j, h1, h2, _⟩ := atG_at m0.2 (reach g 0) 0 hc
  rw [part_len]
  unfold atOf
  rw [h2]
  dsimp only
  omega
theorem part_sd (g : Gr) : SdG (partG g 0) := by
  intro l hl
  unfold partG at hl
  obtain ⟨r, hr, rfl⟩ := List.mem_map.1 hl
  exact (tidyL_sd _).1
theorem part_reach {g : Gr} (hg : OkTo g) (hs : SdG g) (h0 : 0 < g.length) : reach (partG g 0) 0 = iota (reach g 0).length := by
  have hN : (reach g 0).Nodup := (InN.bfs hg (g.length + 1) 0 (InN.one (s := 0) (by omega))).1
  exact bfs_iota hg hs (reach g 0) hN (partG g 0) (part_len g) (fun i hi => part_row g hi) (g.length + 1) ((partG g 0).length + 1) 0 [0] (InN.one (by omega)) rfl (by omega) (by omega)
theorem part_part {g : Gr} (hg : OkTo g) (hs : SdG g) (h0 : 0 < g.length) : partG (partG g 0) 0 = partG g 0 := by
  have hr := part_reach hg hs h0
  have hk := part_okTo hg h0
  have hS := part_sd g
  have hl := part_len g
  generalize partG g 0 = h at *
  unfold partG
  rw [hr, ← hl]
  refine List.ext_getElem (by simp [iota]) fun i h1 h2 => ?_
  simp only [iota, List.getElem_map, List.getElem_range]
  have e : h.getD (((i : Nat) : Int)).toNat [] = h[i] := by
    rw [show (((i : Nat) : Int)).toNat = i by omega, List.getD_eq_getElem?_getD, List.getElem?_eq_getElem h2]
    rfl
  rw [e]
  have hri : reT (List.map (fun i : Nat => (i : Int)) (List.range h.length)) h[i] = h[i] := by
    unfold reT
    refine (List.map_congr_left fun m hm => ?_).trans (List.map_id _)
    have := atOf_iota (n := h.length) (hk _ (List.getElem_mem h2) m hm)
    unfold iota at this
    rw [this]
    rfl
  rw [hri]
  exact tidy_sd (hS _ (List.getElem_mem h2))
end Go.Am
end
section
set_option maxRecDepth 10000
set_option maxHeartbeats 2000000
set_option linter.unusedSimpArgs false
set_option linter.unusedVariables false
namespace Go.Am
open Go.Proofs Go.Sort Go.Shelf
/-! impl.slipFrom -/
def tauL (l : List Mv) : List Mv := l.filter fun m => decide (m.1 = 0)
def tauG (g : Gr) : Gr := g.map tauL
def zs (l : List Int) : List Mv := l.map fun x => (0, x)
def slip (g : Gr) (L : List Int) : List Int := sortL (bfs (tauG g) (g.length + 1) 0 (addNew [] (zs L)))
end Go.Am
end
section
set_option linter.unusedSimpArgs false
set_option linter.unusedVariables false
namespace Go.Am
open Go.Proofs Go.Sort Go.Shelf
/-! what a graph does without being seen, and words -/
def rowZ (g : Gr) (x : Int) : List Mv := g.getD x.toNat []
inductive Tau (g : Gr) : Int → Int → Prop
  | refl (x : Int) : Tau g x x
  | step (x y : Int) (m : Mv) : m ∈ rowZ g x → m.1 = 0 → Tau g m.2 y → Tau g x y
inductive Wk (g : Gr) : Int → List Int → Int → Prop
  | nil (x y : Int) : Tau g x y → Wk g x [] y
  | cons (x u y : Int) (m : Mv) (w : List Int) : Tau g x u → m ∈ rowZ g u → Wk g m.2 w y → Wk g x (m.1 :: w) y
theorem Tau.trans {g : Gr} {x y z : Int} (h : Tau g x y) (k : Tau g y z) : Tau g x z := by
  induction h with
  | refl x => exact k
  | step x y m h1 h2 _ ih => exact .step x z m h1 h2 (ih k)
theorem Wk.pre {g : Gr} {x y z : Int} {w : List Int} (h : Tau g x y) (k : Wk g y w z) : Wk g x w z := by
  cases k with
  | nil _ _ t => exact .nil _ _ (h.trans t)
  | cons _ u _ m w t h1 h2 => exact .cons _ u _ m w (h.trans t) h1 h2
def hops (a : Int) (l : List Mv) : List Int := (l.filter fun m => decide (m.1 = a)).map Prod.snd
def aft (g : Gr) (S : List Int) (a : Int) : List Int := slip g (S.flatMap fun s => hops a (rowZ g s))
def behind (g : Gr) : List Int → List Int → List Int
  | S, [] => S
  | S, a :: w => behind g (aft g S a) w
end Go.Am
end
section
set_option maxRecDepth 10000
set_option maxHeartbeats 4000000
set_option linter.unusedSimpArgs false
set_option linter.unusedVariables false
namespace Go.Am
open Go.Proofs Go.Sort Go.Shelf
/-! spec.l12Pairs: the moves of two states -/
end Go.Am
end
section
set_option maxRecDepth 10000
set_option maxHeartbeats 4000000
set_option linter.unusedSimpArgs false
set_option linter.unusedVariables false
namespace Go.Am
open Go.Proofs Go.Sort Go.Shelf
end Go.Am
end
section
set_option maxRecDepth 10000
set_option maxHeartbeats 4000000
set_option linter.unusedSimpArgs false
set_option linter.unusedVariables false
namespace Go.Am
open Go.Proofs Go.Sort Go.Shelf
/-! impl.GraphSync's moves of two states -/
end Go.Am
end
section
set_option maxRecDepth 10000
set_option maxHeartbeats 4000000
set_option linter.unusedSimpArgs false
set_option linter.unusedVariables false
namespace Go.Am
open Go.Proofs Go.Sort Go.Shelf
end Go.Am
end
section
set_option maxHeartbeats 2000000
set_option linter.unusedSimpArgs false
set_option linter.unusedVariables false
namespace Go.Am
open Go.Proofs Go.Sort Go.Shelf
/-! what pairs of graphs do -/
theorem rowOk_sd {n : Nat} : ∀ {l : List Mv} {p : Option Mv}, Sd (p.toList ++ l) → (∀ m ∈ l, mvOk n m = true) → rowOk n p l = true
  | [], _, _, _ => rfl
  | x :: l, p, hs, hm => by
    simp only [rowOk, Bool.and_eq_true]
    refine ⟨hm x List.mem_cons_self, ?_, rowOk_sd (p := some x) ?_ fun m hml => hm m (List.mem_cons_of_mem _ hml)⟩
    · cases p with
      | none => rfl
      | some q => exact (List.pairwise_cons.1 hs).1 x List.mem_cons_self
    · cases p with
      | none => exact hs
      | some q => exact (List.pairwise_cons.1 hs).2
theorem atOf_nat {x : Int} {row : List Int} (h : x ∈ row) : ∃ j : Nat, j < row.length ∧ atOf row x = (j : Int) ∧ row.getD j 0 = x := by
  obtain ⟨h1, h2⟩ := atOf_at h
  obtain ⟨j, h3, h4, h5⟩ := atG_at x row 0 h
  exact ⟨j, h3, by rw [show atOf row x = atG 0 row x from rfl, h4]; simp, h5⟩
theorem gr_mem {g : Gr} {k : Nat} (h : k < g.length) : g.getD k [] ∈ g := by
  rw [List.getD_eq_getElem?_getD, List.getElem?_eq_getElem h, Option.getD_some]; exact List.getElem_mem h
/-- The part that one comes to is a graph. -/
theorem part_ok {g : Gr} (hg : OkTo g) (h0 : 0 < g.length) (ha : ∀ l ∈ g, ∀ m ∈ l, actOk m.1 = true) (h60 : (reach g 0).length ≤ 60) : grOk (partG g 0) = true := by
  have hr : InN g.length (reach g 0) := InN.bfs hg _ _ (InN.one (by omega))
  have hf := reach_first g
  simp only [grOk, Bool.and_eq_true, decide_eq_true_eq, List.all_eq_true, part_len]
  refine ⟨by omega, h60, fun l hl => ?_⟩
  obtain ⟨i, hi, rfl⟩ := List.getElem_of_mem hl
  have e : (partG g 0)[i] = (partG g 0).getD i [] := by rw [List.getD_eq_getElem?_getD, List.getElem?_eq_getElem hi]; rfl
  rw [part_len] at hi
  rw [e]
  refine rowOk_sd (p := none) ?_ fun z hz => ?_
  · rw [part_row g hi]; exact (tidyL_sd _).1
  · obtain ⟨m, hm, rfl⟩ := (part_mem g hi z).1 hz
    have hx : (reach g 0).getD i 0 ∈ reach g 0 := getD_mem hi
    have hin := hr.2 _ hx
    obtain ⟨j, hj, ej, _⟩ := atOf_nat (reach_closed hg h0 _ hx m hm)
    simp only [mvOk, Bool.and_eq_true, decide_eq_true_eq]
    exact ⟨ha _ (gr_mem (by omega)) m hm, by omega, by omega⟩
section
variable {nm : Int → Bool} {g h : Gr}
end
theorem made_two {q : Gr} (h : (made q).2 = true) : made q = (partG q 0, true) ∧ (reach q 0).length ≤ 60 := by
  unfold made at h ⊢
  split at h
  · rename_i h60; exact ⟨by rw [if_pos h60], h60⟩
  · cases h
end Go.Am
end
section
set_option maxRecDepth 10000
set_option maxHeartbeats 1000000
set_option linter.unusedSimpArgs false
set_option linter.unusedVariables false
namespace Go.Am
open Go.Proofs Go.Sort Go.Shelf
theorem loopGh0 (n : Int) (g : Gr) (h60 : g.length ≤ 60) (hs : SmallG g) : ∀ (rest done : Gr), g = done ++ rest → ∀ Y YL, OwnS 32 1 Y YL (encGs false true (hideG n done)) →
    ∃ Y' YL', OwnS 32 1 Y' YL' (encGs false true (hideG n g)) ∧
    loopI G [3, 4, 6, 20, 21, 22] [3, 4, 18, 32, 35] c22l0 ⟨[(3, .ref (0, 3) 1 0 0), (4, .ref (0, 4) 1 0 0), (6, Y), (20, .sl false 1 (encGs false false g)), (21, .i g.length), (22, .i done.length)], (3, .box [.i n]) :: (4, .box [.nils]) :: YL, []⟩ =
      some (.exit 0, ⟨[(3, .ref (0, 3) 1 0 0), (4, .ref (0, 4) 1 0 0), (6, Y'), (20, .sl false 1 (encGs false false g)), (21, .i g.length), (22, .i g.length), (23, .b false)], (3, .box [.i n]) :: (4, .box [.nils]) :: YL', []⟩)
  | [], done, hd, Y, YL, hY => by
    rw [List.append_nil] at hd
    subst hd
    refine ⟨Y, YL, hY, ?_⟩
    rw [loopI_eq]
    rcases hY with ⟨h1, rfl, rfl⟩ | ⟨h1, rfl, rfl⟩
    · simp [r22l0, b22l0]
    · simp [r22l0, b22l0]
  | x :: rest, done, hd, Y, YL, hY => by
    have hrl : g.length = done.length + (rest.length + 1) := by rw [hd]; simp
    have hlt : (done.length : Int) < g.length := by omega
    have hlt2 : done.length < g.length := by omega
    have hw : IntKind.i64.wrap ((done.length : Int) + 1) = (done.length : Int) + 1 := wr (by omega)
    have hdl : done.length ≤ 4294967295 := by omega
    have hat : nth (encGs false false g) done.length = some (.sl false 2 (x.map mvP)) := by rw [hd]; simpa using gr_at false false done x rest
    have hx : x.length ≤ 1048576 := hs.2 x (by rw [hd]; simp)
    have hcl : cloneMv [.sl false 2 (x.map mvP)] [] = some (.sl true 2 (x.map mvP), []) := by
      have : x.length ≤ 4294967296 := by omega
      simp [cloneMv, this]
    have hnew : encGs false true (hideG n (done ++ [x])) = encGs false true (hideG n done) ++ [.sl true 2 ((hideR n x).map mvP)] := by simp [encGs, hideG]
    have hhl : (hideG n done).length = done.length := by simp [hideG]
    have hYn : OwnS 32 1 (.own (0, 32) (done.length + 1)) [(32, .row 1 (encGs false true (hideG n done) ++ [.sl true 2 ((hideR n x).map mvP)]))] (encGs false true (hideG n (done ++ [x]))) := by
      refine .inr ⟨by rw [hnew]; simp, ?_, ?_⟩
      · rw [hnew]; simp [hhl]
      · rw [hnew]
    obtain ⟨Y', YL', hY', hn⟩ := loopGh0 n g h60 hs rest (done ++ [x]) (by simpa using hd) _ _ hYn
    refine ⟨Y', YL', hY', ?_⟩
    clear hY'
    simp only [List.length_append, List.length_cons, List.length_nil, Int.natCast_add, show ((0 + 1 : Nat) : Int) = 1 from rfl] at hn
    have hEl : (encGs false false g).length = g.length := by simp
    have hns := noShares_mv (hideR n x)
    have hns2 := noShares_mv x
    generalize hE : encGs false false g = E at hat hEl hn ⊢
    rw [loopI_eq]
    rcases hY with ⟨h1, rfl, rfl⟩ | ⟨h1, rfl, rfl⟩
    · have hd0 : done = [] := by cases done with | nil => rfl | cons p q => simp [encGs, hideG] at h1
      subst hd0
      have hlt0 : 0 < g.length := by omega
      have hdel := eqDelete _ (0, 3) _ _ (cloHide (0, 3) n) (0, 28) (by decide) x [[(3, .box [.i n]), (4, .box [.nils]), (28, .row 2 (x.map mvP))]] (by simp) (by simp [getS, getO]) (by simp) (by simp [getS, getO]) (by omega)
      simp [setS, setO] at hdel
      simp [hideG, encGs] at hn hat
      rcases hdel with ⟨q1, hdel⟩ | hdel
      · have hq : hideR n x = x := by
          unfold hideR
          exact filter_all (fun y hy => by simpa using q1 y.1 y.2 hy)
        rw [hq] at hn
        simp [r22l0, b22l0, hlt, hlt2, hlt0, hw, hat, hEl, wr1, eqCloneM, hcl, hdel, hns, hns2]
        exact hn
      · simp [r22l0, b22l0, hlt, hlt2, hlt0, hw, hat, hEl, wr1, eqCloneM, hcl, hdel, hns, hns2]
        exact hn
    · have hdel := eqDelete _ (0, 3) _ _ (cloHide (0, 3) n) (0, 28) (by decide) x [[(3, .box [.i n]), (4, .box [.nils]), (32, .row 1 (encGs false true (hideG n done))), (28, .row 2 (x.map mvP))]] (by simp) (by simp [getS, getO]) (by simp) (by simp [getS, getO]) (by omega)
      simp [setS, setO] at hdel
      generalize hD : encGs false true (hideG n done) = D at *
      have hDl : D.length = done.length := by rw [← hD]; simp [hhl]
      rw [hDl]
      rcases hdel with ⟨q1, hdel⟩ | hdel
      · have hq : hideR n x = x := by
          unfold hideR
          exact filter_all (fun y hy => by simpa using q1 y.1 y.2 hy)
        rw [hq] at hn
        simp [r22l0, b22l0, hlt, hlt2, hw, hat, hEl, eqCloneM, hcl, hdel, hns, hns2, hDl, hdl]
        exact hn
      · simp [r22l0, b22l0, hlt, hlt2, hw, hat, hEl, eqCloneM, hcl, hdel, hns, hns2, hDl, hdl]
        exact hn
theorem hideG_to {n : Int} {g : Gr} (h : OkTo g) : OkTo (hideG n g) := by
  intro l hl m hm
  have hn : (hideG n g).length = g.length := by simp [hideG]
  rw [hn]
  simp only [hideG, List.mem_map] at hl
  obtain ⟨r, hr, rfl⟩ := hl
  exact h r hr m (List.mem_filter.1 hm).1
theorem hideG_small {n : Int} {g : Gr} (h : SmallG g) : SmallG (hideG n g) := by
  refine ⟨by simpa [hideG] using h.1, fun l hl => ?_⟩
  simp only [hideG, List.mem_map] at hl
  obtain ⟨r, hr, rfl⟩ := hl
  exact Nat.le_trans (List.length_filter_le _ _) (h.2 r hr)
def graphHide (g : Gr) (n : Int) : Gr × Bool := if grOk g && nameOk n then made (hideG n g) else ([], false)
theorem eqGraphHideI (g : Gr) (hs : SmallG g) (hf : FitG g) (n : Int) : callI G 22 [encG false false g, .i n] [] = some (.tup [encG true true (graphHide g n).1, .b (graphHide g n).2], []) := by
  have h1 := eqNameOk n
  have h2 := eqOkI g hf
  simp only [encG, encM_f] at h2 ⊢
  rw [callI_eq]
  by_cases c2 : grOk g = true
  · by_cases c1 : nameOk n = true
    · obtain ⟨q1, q2, q3⟩ := grOk_to c2
      obtain ⟨Y, YL, hY, l0⟩ := loopGh0 n g q3 hs g [] rfl .nils [] (.inl ⟨rfl, rfl, rfl⟩)
      have hal : (hideG n g).length = g.length := by simp [hideG]
      have hp := eqPartOf _ (hideG n g) (encR_G false false _) (hideG_to q1) (hideG_small hs) (by omega)
      have hga : graphHide g n = made (hideG n g) := by simp [graphHide, c1, c2]
      rw [hga]
      generalize hm : made (hideG n g) = m at hp ⊢
      obtain ⟨mg, mb⟩ := m
      simp only [encG] at hp ⊢
      simp only [List.length_nil, show ((0 : Nat) : Int) = 0 from rfl] at l0
      have efl : fals (encGs false true (hideG n g)) = encGs false false (hideG n g) := fals_encGs _ _ _
      have hns := noShares_encGs true mg
      have hne : encGs false true (hideG n g) ≠ [] := by
        intro e
        have := congrArg List.length e
        rw [encGs_len, hal] at this
        simp at this
        rw [this] at q2; simp at q2
      rcases hY with ⟨e, _⟩ | ⟨_, rfl, rfl⟩
      · exact absurd e hne
      rcases encM_two true true mg with ⟨e, _⟩ | e
      · rw [e] at hp ⊢
        simp [body1_eq _ _ (gp 22) g22, c22, a22, h1, h2, c1, c2, l0, hal, efl, hp, hns]
      · rw [e] at hp ⊢
        simp [body1_eq _ _ (gp 22) g22, c22, a22, h1, h2, c1, c2, l0, hal, efl, hp, hns]
    · have c1 : nameOk n = false := by simpa using c1
      have hga : graphHide g n = ([], false) := by simp [graphHide, c1]
      rw [hga]
      simp [body1_eq _ _ (gp 22) g22, c22, a22, h1, h2, c1, c2]
  · have c2 : grOk g = false := by simpa using c2
    have hga : graphHide g n = ([], false) := by simp [graphHide, c2]
    rw [hga]
    simp [body1_eq _ _ (gp 22) g22, c22, a22, h2, c2]
end Go.Am
end
section
set_option maxRecDepth 10000
set_option maxHeartbeats 1000000
set_option linter.unusedSimpArgs false
set_option linter.unusedVariables false
namespace Go.Am
open Go.Proofs Go.Sort Go.Shelf
theorem loopHs0 (n : Int) (E : List PV) (g : Gr) (hE : EncR false E g) (Y : PV) (YL : Objs) (xs : List PV) (hY : OwnS 65 1 Y YL xs) (j : Nat) (hj : j < g.length) (hjb : j ≤ 1048576) (L : List Mv) (hL : g.getD j [] = L) (hLl : L.length ≤ 1048576) : ∀ (rest done : List Mv), L = done ++ rest →
    loopI G [1, 2, 4, 6, 7, 8, 9] [2, 4, 6, 28, 60, 65, 68] c23l0 ⟨[(1, .i n), (2, .ref (0, 2) 1 0 0), (4, .ref (0, 4) 1 0 0), (6, .ref (0, 6) 1 0 0), (7, .i j), (8, owP 60 (hideR n done)), (9, .i done.length)], (2, .box [PV.sl false 1 E]) :: (4, .box [.nils]) :: (6, .box [Y]) :: (owL 60 (hideR n done) ++ YL), []⟩ =
      some (.exit 2, ⟨[(1, .i n), (2, .ref (0, 2) 1 0 0), (4, .ref (0, 4) 1 0 0), (6, .ref (0, 6) 1 0 0), (7, .i j), (8, owP 60 (hideR n L)), (9, .i L.length), (36, .b false)], (2, .box [PV.sl false 1 E]) :: (4, .box [.nils]) :: (6, .box [Y]) :: (owL 60 (hideR n L) ++ YL), []⟩)
  | [], done, hd => by
    rw [List.append_nil] at hd
    subst hd
    have hEl := hE.1
    obtain ⟨nl, hat⟩ := hE.2 j hj
    rw [hL] at hat
    have hji : (j : Int) < g.length := by omega
    clear hE
    rw [loopI_eq]
    rcases encL_two nl false L with ⟨e, e2⟩ | e
    · rw [e] at hat
      subst e2
      rcases hY with ⟨rfl, rfl, rfl⟩ | ⟨hxs, rfl, rfl⟩
      · simp [r23l0, b23l0, hEl, hj, hji, hat, hideR]
      · simp [r23l0, b23l0, hEl, hj, hji, hat, hideR]
    · rw [e] at hat
      by_cases hd : hideR n L = []
      · rw [hd]
        rcases hY with ⟨rfl, rfl, rfl⟩ | ⟨hxs, rfl, rfl⟩
        · simp [r23l0, b23l0, hEl, hj, hji, hat]
        · simp [r23l0, b23l0, hEl, hj, hji, hat]
      · rw [owP_ne hd, owL_ne hd]
        rcases hY with ⟨rfl, rfl, rfl⟩ | ⟨hxs, rfl, rfl⟩
        · simp [r23l0, b23l0, hEl, hj, hji, hat]
        · simp [r23l0, b23l0, hEl, hj, hji, hat]
  | m :: rest, done, hd => by
    have hEl := hE.1
    obtain ⟨nl, hat⟩ := hE.2 j hj
    rw [hL] at hat
    have hji : (j : Int) < g.length := by omega
    have hen : encL nl false L = .sl false 2 (L.map mvP) := encL_ne (by rw [hd]; simp)
    rw [hen] at hat
    have hLl2 : L.length = done.length + (rest.length + 1) := by rw [hd]; simp
    have hlt : (done.length : Int) < L.length := by omega
    have hlt2 : done.length < L.length := by omega
    have hw : IntKind.i64.wrap ((done.length : Int) + 1) = (done.length : Int) + 1 := wr (by omega)
    have hhl : (hideR n done).length ≤ done.length := List.length_filter_le _ _
    have hdl : (hideR n done).length ≤ 4294967295 := by omega
    have hat2 : nth (L.map mvP) done.length = some (mvP m) := by rw [hd]; exact mv_at done m rest
    have hnm := eqNameS m.1
    have hn := loopHs0 n E g hE Y YL xs hY j hj hjb L hL hLl rest (done ++ [m]) (by simpa using hd)
    have hml : (L.map mvP).length = L.length := by simp
    have hh : hideR n (done ++ [m]) = if hidF n m = true then hideR n done else hideR n done ++ [m] := by
      simp only [hideR, List.filter_append]
      cases hv : hidF n m <;> simp [List.filter, hv]
    rw [hh] at hn
    simp only [List.length_append, List.length_cons, List.length_nil, Int.natCast_add, show ((0 + 1 : Nat) : Int) = 1 from rfl] at hn
    clear hE hh
    generalize hM : L.map mvP = M at hat hat2 hml
    generalize hH : hideR n done = H at hn hdl ⊢
    generalize hH2 : hideR n L = H2 at hn ⊢
    simp only [mvP] at hat2
    rw [loopI_eq]
    have hkey : (hidF n m = true ∧ m.1 ≠ 0 ∧ nameI m.1 = n) ∨ (hidF n m = false ∧ (m.1 = 0 ∨ (m.1 ≠ 0 ∧ ¬ nameI m.1 = n))) := by
      unfold hidF
      by_cases c1 : m.1 = 0
      · simp [c1]
      · by_cases c2 : nameI m.1 = n <;> simp [c1, c2]
    rcases hkey with ⟨k1, k2, k3⟩ | ⟨k1, k2⟩
    · simp only [k1, if_true] at hn
      rcases hY with ⟨rfl, rfl, rfl⟩ | ⟨hxs, rfl, rfl⟩
      · by_cases hdn : H = []
        · subst hdn
          simp at hn
          simp [r23l0, b23l0, hEl, hj, hji, hat, hat2, hml, hlt, hlt2, unAgg, hw, hnm, k2, k3]
          exact hn
        · rw [owP_ne hdn, owL_ne hdn] at hn ⊢
          simp at hn
          simp [r23l0, b23l0, hEl, hj, hji, hat, hat2, hml, hlt, hlt2, unAgg, hw, hnm, k2, k3]
          exact hn
      · by_cases hdn : H = []
        · subst hdn
          simp at hn
          simp [r23l0, b23l0, hEl, hj, hji, hat, hat2, hml, hlt, hlt2, unAgg, hw, hnm, k2, k3]
          exact hn
        · rw [owP_ne hdn, owL_ne hdn] at hn ⊢
          simp at hn
          simp [r23l0, b23l0, hEl, hj, hji, hat, hat2, hml, hlt, hlt2, unAgg, hw, hnm, k2, k3]
          exact hn
    · simp only [k1, Bool.false_eq_true, if_false] at hn
      rcases hY with ⟨rfl, rfl, rfl⟩ | ⟨hxs, rfl, rfl⟩
      · by_cases hdn : H = []
        · subst hdn
          simp [mvP] at hn
          rcases k2 with k2 | ⟨k2, k3⟩
          · rw [k2] at hat2 hn
            simp [r23l0, b23l0, hEl, hj, hji, hat, hat2, hml, hlt, hlt2, unAgg, hw, k2]
            exact hn
          · simp [r23l0, b23l0, hEl, hj, hji, hat, hat2, hml, hlt, hlt2, unAgg, hw, hnm, k2, k3]
            exact hn
        · rw [owP_ne hdn, owL_ne hdn]
          simp [mvP] at hn
          rcases k2 with k2 | ⟨k2, k3⟩
          · rw [k2] at hat2 hn
            simp [r23l0, b23l0, hEl, hj, hji, hat, hat2, hml, hlt, hlt2, unAgg, hw, hdl, k2]
            exact hn
          · simp [r23l0, b23l0, hEl, hj, hji, hat, hat2, hml, hlt, hlt2, unAgg, hw, hdl, hnm, k2, k3]
            exact hn
      · by_cases hdn : H = []
        · subst hdn
          simp [mvP] at hn
          rcases k2 with k2 | ⟨k2, k3⟩
          · rw [k2] at hat2 hn
            simp [r23l0, b23l0, hEl, hj, hji, hat, hat2, hml, hlt, hlt2, unAgg, hw, k2]
            exact hn
          · simp [r23l0, b23l0, hEl, hj, hji, hat, hat2, hml, hlt, hlt2, unAgg, hw, hnm, k2, k3]
            exact hn
        · rw [owP_ne hdn, owL_ne hdn]
          simp [mvP] at hn
          rcases k2 with k2 | ⟨k2, k3⟩
          · rw [k2] at hat2 hn
            simp [r23l0, b23l0, hEl, hj, hji, hat, hat2, hml, hlt, hlt2, unAgg, hw, hdl, k2]
            exact hn
          · simp [r23l0, b23l0, hEl, hj, hji, hat, hat2, hml, hlt, hlt2, unAgg, hw, hdl, hnm, k2, k3]
            exact hn
end Go.Am
end
section
set_option maxRecDepth 10000
set_option maxHeartbeats 1000000
set_option linter.unusedSimpArgs false
set_option linter.unusedVariables false
namespace Go.Am
open Go.Proofs Go.Sort Go.Shelf
theorem loopHs1 (n : Int) (E : List PV) (g : Gr) (hE : EncR false E g) (h60 : g.length ≤ 60) (hs : SmallG g) : ∀ (rest done : Gr), g = done ++ rest → ∀ Y YL, OwnS 65 1 Y YL (encGs true true (hideG n done)) →
    ∃ Y' YL', OwnS 65 1 Y' YL' (encGs true true (hideG n g)) ∧
    loopI G [1, 2, 4, 6, 7] [2, 4, 6, 65, 68] c23l1 ⟨[(1, .i n), (2, .ref (0, 2) 1 0 0), (4, .ref (0, 4) 1 0 0), (6, .ref (0, 6) 1 0 0), (7, .i done.length)], (2, .box [PV.sl false 1 E]) :: (4, .box [.nils]) :: (6, .box [Y]) :: YL, []⟩ =
      some (.exit 0, ⟨[(1, .i n), (2, .ref (0, 2) 1 0 0), (4, .ref (0, 4) 1 0 0), (6, .ref (0, 6) 1 0 0), (7, .i g.length), (25, .b false)], (2, .box [PV.sl false 1 E]) :: (4, .box [.nils]) :: (6, .box [Y']) :: YL', []⟩)
  | [], done, hd, Y, YL, hY => by
    rw [List.append_nil] at hd
    subst hd
    refine ⟨Y, YL, hY, ?_⟩
    rw [loopI_eq]
    rcases hY with ⟨h1, rfl, rfl⟩ | ⟨h1, rfl, rfl⟩
    · simp [r23l1, b23l1, hE.1]
    · simp [r23l1, b23l1, hE.1]
  | x :: rest, done, hd, Y, YL, hY => by
    have hEl := hE.1
    have hrl : g.length = done.length + (rest.length + 1) := by rw [hd]; simp
    have hlt : (done.length : Int) < g.length := by omega
    have hlt2 : done.length < g.length := by omega
    have hw : IntKind.i64.wrap ((done.length : Int) + 1) = (done.length : Int) + 1 := wr (by omega)
    have hdl : done.length ≤ 4294967295 := by omega
    have hx : x.length ≤ 1048576 := hs.2 x (by rw [hd]; simp)
    have hgd : g.getD done.length [] = x := by rw [hd]; simp
    have h0 := loopHs0 n E g hE Y YL _ hY done.length hlt2 (by omega) x hgd hx x [] rfl
    have hr0 : hideR n [] = [] := rfl
    simp only [List.length_nil, show ((0 : Nat) : Int) = 0 from rfl, hr0, owP_n, owL_n, List.nil_append] at h0
    have hnew : encGs true true (hideG n (done ++ [x])) = encGs true true (hideG n done) ++ [encL true true (hideR n x)] := by simp [encGs, hideG]
    have hhl : (hideG n done).length = done.length := by simp [hideG]
    have hYn : OwnS 65 1 (.own (0, 65) (done.length + 1)) [(65, .row 1 (encGs true true (hideG n done) ++ [encL true true (hideR n x)]))] (encGs true true (hideG n (done ++ [x]))) := by
      refine .inr ⟨by rw [hnew]; simp, ?_, ?_⟩
      · rw [hnew]; simp [hhl]
      · rw [hnew]
    obtain ⟨Y', YL', hY', hn⟩ := loopHs1 n E g hE h60 hs rest (done ++ [x]) (by simpa using hd) _ _ hYn
    refine ⟨Y', YL', hY', ?_⟩
    clear hY' hE
    simp only [List.length_append, List.length_cons, List.length_nil, Int.natCast_add, show ((0 + 1 : Nat) : Int) = 1 from rfl] at hn
    have hns := noShares_mv (hideR n x)
    have hDl : (encGs true true (hideG n done)).length = done.length := by simp [hhl]
    have hd0 : encGs true true (hideG n done) = [] → done = [] := fun e => by
      have := congrArg List.length e
      rw [hDl] at this
      exact List.length_eq_zero_iff.1 this
    generalize hD : encGs true true (hideG n done) = D at hY hn hDl hd0 h0
    generalize hH : hideR n x = H at hn h0 hns
    rw [loopI_eq]
    by_cases hHe : H = []
    · subst hHe
      simp only [owP_n, owL_n, List.nil_append, encL_n] at h0 hn
      rcases hY with ⟨h1, rfl, rfl⟩ | ⟨h1, rfl, rfl⟩
      · have hd1 := hd0 h1
        subst hd1
        subst h1
        have hlt0 : 0 < g.length := by omega
        simp at h0 hn
        simp [r23l1, b23l1, hlt, hlt2, hlt0, hw, hEl, h0, wr1]
        exact hn
      · rw [hDl] at h0
        simp [r23l1, b23l1, hlt, hlt2, hw, hEl, h0, hDl, hdl]
        exact hn
    · have he : encL true true H = .sl true 2 (H.map mvP) := encL_ne hHe
      rw [he] at hn
      rw [owP_ne hHe, owL_ne hHe] at h0
      rcases hY with ⟨h1, rfl, rfl⟩ | ⟨h1, rfl, rfl⟩
      · have hd1 := hd0 h1
        subst hd1
        subst h1
        have hlt0 : 0 < g.length := by omega
        simp at h0 hn
        simp [r23l1, b23l1, hlt, hlt2, hlt0, hw, hEl, h0, hns, wr1]
        exact hn
      · rw [hDl] at h0
        simp at h0
        simp [r23l1, b23l1, hlt, hlt2, hw, hEl, h0, hns, hDl, hdl]
        exact hn
theorem eqGraphHideS (g : Gr) (hs : SmallG g) (hf : FitG g) (n : Int) : callI G 23 [encG false false g, .i n] [] = some (.tup [encG true true (graphHide g n).1, .b (graphHide g n).2], []) := by
  have h1 := l6In n 0 3
  have h2 := eqOkS g hf
  have hno : nameOk n = (decide (0 ≤ n) && decide (n ≤ 3)) := by
    unfold nameOk
    have : decide (n < 4) = decide (n ≤ 3) := by apply decide_eq_decide.2; omega
    rw [this]
  rw [← hno] at h1
  simp only [encG, encM_f] at h2 ⊢
  rw [callI_eq]
  by_cases c2 : grOk g = true
  · by_cases c1 : nameOk n = true
    · obtain ⟨q1, q2, q3⟩ := grOk_to c2
      obtain ⟨Y, YL, hY, l0⟩ := loopHs1 n _ g (encR_G false false g) q3 hs g [] rfl .nils [] (.inl ⟨rfl, rfl, rfl⟩)
      have hal : (hideG n g).length = g.length := by simp [hideG]
      have hm := eqMade _ (hideG n g) (encR_G true false _) (hideG_to q1) (hideG_small hs) (by omega)
      have hga : graphHide g n = made (hideG n g) := by simp [graphHide, c1, c2]
      rw [hga]
      generalize hmm : made (hideG n g) = m at hm ⊢
      obtain ⟨mg, mb⟩ := m
      simp only [encG] at hm ⊢
      simp only [List.length_nil, show ((0 : Nat) : Int) = 0 from rfl] at l0
      have efl : fals (encGs true true (hideG n g)) = encGs true false (hideG n g) := fals_encGs _ _ _
      have hns := noShares_encGs true mg
      have hns2 := noShares_encGs true (hideG n g)
      have hne : encGs true true (hideG n g) ≠ [] := by
        intro e
        have := congrArg List.length e
        rw [encGs_len, hal] at this
        simp at this
        rw [this] at q2; simp at q2
      rcases hY with ⟨e, _⟩ | ⟨_, rfl, rfl⟩
      · exact absurd e hne
      rcases encM_two true true mg with ⟨e, _⟩ | e
      · rw [e] at hm ⊢
        simp [body1_eq _ _ (gp 23) g23, c23, a23, h1, h2, c1, c2, l0, hal, efl, hm, hns, hns2]
      · rw [e] at hm ⊢
        simp [body1_eq _ _ (gp 23) g23, c23, a23, h1, h2, c1, c2, l0, hal, efl, hm, hns, hns2]
    · have c1 : nameOk n = false := by simpa using c1
      have hga : graphHide g n = ([], false) := by simp [graphHide, c1]
      rw [hga]
      simp [body1_eq _ _ (gp 23) g23, c23, a23, h1, h2, c1, c2]
  · have c2 : grOk g = false := by simpa using c2
    have hga : graphHide g n = ([], false) := by simp [graphHide, c2]
    rw [hga]
    simp [body1_eq _ _ (gp 23) g23, c23, a23, h2, c2]
end Go.Am
end
section
set_option maxRecDepth 10000
set_option maxHeartbeats 1000000
set_option linter.unusedSimpArgs false
set_option linter.unusedVariables false
namespace Go.Am
open Go.Proofs Go.Sort Go.Shelf
end Go.Am
end
section
set_option maxRecDepth 10000
set_option maxHeartbeats 1000000
set_option linter.unusedSimpArgs false
set_option linter.unusedVariables false
namespace Go.Am
open Go.Proofs Go.Sort Go.Shelf
theorem grOk_act {g : Gr} (h : grOk g = true) : ∀ l ∈ g, ∀ m ∈ l, actOk m.1 = true := by
  simp only [grOk, Bool.and_eq_true, decide_eq_true_eq, List.all_eq_true] at h
  intro l hl m hm
  have := rowOk_mem (h.2.2 l hl) m hm
  simp only [mvOk, Bool.and_eq_true] at this
  exact this.1
end Go.Am
end
section
set_option maxRecDepth 10000
set_option maxHeartbeats 1000000
set_option linter.unusedSimpArgs false
set_option linter.unusedVariables false
namespace Go.Am
open Go.Proofs Go.Sort Go.Shelf
end Go.Am
end
section
set_option maxRecDepth 10000
set_option maxHeartbeats 1000000
set_option linter.unusedSimpArgs false
set_option linter.unusedVariables false
namespace Go.Am
open Go.Proofs Go.Sort Go.Shelf
end Go.Am
end
section
set_option maxRecDepth 10000
set_option maxHeartbeats 2000000
set_option linter.unusedSimpArgs false
set_option linter.unusedVariables false
namespace Go.Am
open Go.Proofs Go.Sort Go.Shelf
/-! what is hidden or veiled twice -/
theorem rowOk_pw {n : Nat} : ∀ (l : List Mv) (p : Option Mv), rowOk n p l = true → Sd l ∧ ∀ x ∈ l, prevOk p x = true
  | [], p, _ => ⟨List.Pairwise.nil, fun x hx => by cases hx⟩
  | m :: l, p, h => by
    simp only [rowOk, Bool.and_eq_true] at h
    obtain ⟨h1, h2, h3⟩ := h
    obtain ⟨a, b⟩ := rowOk_pw l (some m) h3
    refine ⟨List.pairwise_cons.2 ⟨fun x hx => b x hx, a⟩, fun x hx => ?_⟩
    rcases List.mem_cons.1 hx with rfl | hx
    · exact h2
    · have hb := b x hx
      cases p with
      | none => rfl
      | some q =>
        simp only [prevOk] at h2 hb ⊢
        rw [ltM_iff] at h2 hb ⊢
        omega
theorem grOk_sd {g : Gr} (h : grOk g = true) : SdG g := by
  intro l hl
  simp only [grOk, Bool.and_eq_true, List.all_eq_true] at h
  exact (rowOk_pw l none (h.2.2 l hl)).1
theorem hideG_sd {n : Int} {g : Gr} (h : SdG g) : SdG (hideG n g) := by
  intro l hl
  simp only [hideG, List.mem_map] at hl
  obtain ⟨r, hr, rfl⟩ := hl
  exact (h r hr).filter _
theorem hideG_act {n : Int} {g : Gr} (h : ∀ l ∈ g, ∀ m ∈ l, actOk m.1 = true) : ∀ l ∈ hideG n g, ∀ m ∈ l, actOk m.1 = true := by
  intro l hl m hm
  simp only [hideG, List.mem_map] at hl
  obtain ⟨r, hr, rfl⟩ := hl
  exact h r hr m (List.mem_filter.1 hm).1
/-- What holds of the acts of a graph holds of those of its part. -/
theorem part_all {g : Gr} {C : Int → Prop} (h0 : 0 < g.length) (hg : OkTo g) (h : ∀ l ∈ g, ∀ m ∈ l, C m.1) : ∀ l ∈ partG g 0, ∀ m ∈ l, C m.1 := by
  intro l hl m hm
  unfold partG at hl
  obtain ⟨r, hr, rfl⟩ := List.mem_map.1 hl
  have hm2 := (tidyL_sd _).2 m |>.1 hm
  unfold reT at hm2
  obtain ⟨m0, hm0, rfl⟩ := List.mem_map.1 hm2
  have hN := (InN.bfs hg (g.length + 1) 0 (InN.one (s := 0) (by omega))).2 r hr
  exact h _ (gr_mem (by omega)) m0 hm0
/-- A part of a graph, made again. -/
theorem made_part {q : Gr} (hg : OkTo q) (hs : SdG q) (h0 : 0 < q.length) (h60 : (reach q 0).length ≤ 60) : made (partG q 0) = (partG q 0, true) := by
  unfold made
  rw [part_reach hg hs h0, iota_len, if_pos h60, part_part hg hs h0]
theorem hide_again {g x : Gr} {n : Int} (h : graphHide g n = (x, true)) : graphHide x n = (x, true) ∧ ∀ l ∈ x, ∀ m ∈ l, hidF n m = false ∧ actOk m.1 = true := by
  unfold graphHide at h
  split at h
  · rename_i hc
    simp only [Bool.and_eq_true] at hc
    obtain ⟨q1, q2, q3⟩ := grOk_to hc.1
    have hto := hideG_to (n := n) q1
    have hsd := hideG_sd (n := n) (grOk_sd hc.1)
    have hac := hideG_act (n := n) (grOk_act hc.1)
    have hlen : (hideG n g).length = g.length := by simp [hideG]
    have hhd : ∀ l ∈ hideG n g, ∀ m ∈ l, (fun a => hidF n (a, 0) = false) m.1 := by
      intro l hl m hm
      simp only [hideG, List.mem_map] at hl
      obtain ⟨r, hr, rfl⟩ := hl
      have h3 : (!hidF n m) = true := (List.mem_filter.1 hm).2
      show hidF n (m.1, 0) = false
      have e : hidF n (m.1, 0) = hidF n m := rfl
      rw [e]
      simpa using h3
    generalize hideG n g = q at *
    obtain ⟨e1, e2⟩ := made_two (q := q) (by rw [h])
    rw [e1] at h
    simp only [Prod.mk.injEq, and_true] at h
    subst h
    have a1 := part_all (C := fun a => actOk a = true) (by omega) hto hac
    have a2 := part_all (C := fun a => hidF n (a, 0) = false) (by omega) hto hhd
    have hok := part_ok hto (by omega) hac e2
    have hid : hideG n (partG q 0) = partG q 0 := by
      unfold hideG
      refine (List.map_congr_left fun l hl => ?_).trans (List.map_id _)
      show hideR n l = l
      unfold hideR
      refine List.filter_eq_self.2 fun m hm => ?_
      have h3 : hidF n (m.1, 0) = false := a2 l hl m hm
      have e : hidF n (m.1, 0) = hidF n m := rfl
      rw [e] at h3
      rw [h3]; rfl
    refine ⟨?_, fun l hl m hm => ⟨a2 l hl m hm, a1 l hl m hm⟩⟩
    unfold graphHide
    rw [hok, hc.2, Bool.true_and, if_pos rfl, hid]
    exact made_part hto hsd (by omega) e2
  · simp at h
end Go.Am
end
section
set_option maxRecDepth 10000
set_option maxHeartbeats 1000000
set_option linter.unusedSimpArgs false
set_option linter.unusedVariables false
namespace Go.Am
open Go.Proofs Go.Sort Go.Shelf
/-! impl.GraphBoth -/
end Go.Am
end
section
set_option maxRecDepth 10000
set_option maxHeartbeats 4000000
set_option linter.unusedSimpArgs false
set_option linter.unusedVariables false
namespace Go.Am
open Go.Proofs Go.Sort Go.Shelf
theorem gr_row (q : Gr) (s : Nat) (h : s < q.length) : ∃ x : List Mv, x ∈ q ∧ nth (encGs false false q) s = some (.sl false 2 (x.map mvP)) :=
  ⟨q[s], List.getElem_mem h, by simp [nth, encGs, h]⟩
theorem mv_nth (l : List Mv) (i : Nat) (h : i < l.length) : ∃ m : Mv, nth (l.map mvP) i = some (mvP m) := ⟨l[i], by simp [nth, h]⟩
theorem loopMnG0 (q : Gr) (s : Nat) (hs : s < q.length) (x : List Mv) (hat : nth (encGs false false q) s = some (.sl false 2 (x.map mvP))) (hl : x.length ≤ 4611686018427387904) (hq : q.length ≤ 4611686018427387904) : ∀ (n i : Nat), i + n = x.length →
    loopI G [2, 3, 5, 6] [2, 3] c19l0 ⟨[(2, .ref (0, 2) 1 0 0), (3, .ref (0, 3) 1 0 0), (5, .i s), (6, .i i)], [(2, .box [.sl false 1 (encGs false false q)]), (3, .box [.sl false 1 (encGs false false q)])], []⟩ =
      some (.exit 2, ⟨[(2, .ref (0, 2) 1 0 0), (3, .ref (0, 3) 1 0 0), (5, .i s), (6, .i x.length), (41, .b false)], [(2, .box [.sl false 1 (encGs false false q)]), (3, .box [.sl false 1 (encGs false false q)])], []⟩)
  | 0, i, h => by
    have : i = x.length := by omega
    subst this
    have hlt : (s : Int) < q.length := by omega
    rw [loopI_eq]
    simp [r19l0, b19l0, hlt, hat]
  | n + 1, i, h => by
    have hn := loopMnG0 q s hs x hat hl hq n (i + 1) (by omega)
    have hil : i < x.length := by omega
    obtain ⟨m, hat2⟩ := mv_nth x i hil
    have hlt : (s : Int) < q.length := by omega
    have hlt2 : (i : Int) < x.length := by omega
    have hw : IntKind.i64.wrap ((i : Int) + 1) = (i : Int) + 1 := wr (by omega)
    simp only [Int.natCast_add, show ((1 : Nat) : Int) = 1 from rfl] at hn
    simp only [mvP] at hat2
    rw [loopI_eq]
    simp [r19l0, b19l0, hlt, hat, hlt2, hat2, hw]
    exact hn
theorem loopMnG1 (q : Gr) (hl : ∀ l ∈ q, l.length ≤ 4611686018427387904) (hq : q.length ≤ 4611686018427387904) : ∀ (n s : Nat), s + n = q.length →
    loopI G [2, 3, 5] [2, 3] c19l1 ⟨[(2, .ref (0, 2) 1 0 0), (3, .ref (0, 3) 1 0 0), (5, .i s)], [(2, .box [.sl false 1 (encGs false false q)]), (3, .box [.sl false 1 (encGs false false q)])], []⟩ =
      some (.exit 0, ⟨[(2, .ref (0, 2) 1 0 0), (3, .ref (0, 3) 1 0 0), (5, .i q.length), (18, .b false)], [(2, .box [.sl false 1 (encGs false false q)]), (3, .box [.sl false 1 (encGs false false q)])], []⟩)
  | 0, s, h => by
    have : s = q.length := by omega
    subst this
    rw [loopI_eq]
    simp [r19l1, b19l1]
  | n + 1, s, h => by
    have hn := loopMnG1 q hl hq n (s + 1) (by omega)
    have hs : s < q.length := by omega
    obtain ⟨x, hx, hat⟩ := gr_row q s hs
    have hlt : (s : Int) < q.length := by omega
    have hw : IntKind.i64.wrap ((s : Int) + 1) = (s : Int) + 1 := wr (by omega)
    have h0 := loopMnG0 q s hs x hat (hl x hx) hq x.length 0 (by omega)
    simp only [Int.natCast_add, show ((1 : Nat) : Int) = 1 from rfl, show ((0 : Nat) : Int) = 0 from rfl] at hn h0
    rw [loopI_eq]
    simp [r19l1, b19l1, hlt, hat, hw, h0]
    exact hn
theorem eqMnGraph (q : Gr) (hl : ∀ l ∈ q, l.length ≤ 4611686018427387904) (hq : q.length ≤ 4611686018427387904) : callI G 19 [encG false false q, encG false false q] [] = some (.b true, []) := by
  have h1 := loopMnG1 q hl hq q.length 0 (by omega)
  simp only [show ((0 : Nat) : Int) = 0 from rfl] at h1
  rw [callI_eq]
  simp [body1_eq _ _ (gp 19) g19, c19, a19, h1]
end Go.Am
end
section
set_option maxRecDepth 10000
set_option maxHeartbeats 4000000
set_option linter.unusedSimpArgs false
set_option linter.unusedVariables false
namespace Go.Am
open Go.Proofs Go.Sort Go.Shelf
/-! names of acts, in the machine of the laws -/
theorem lActOk (a : Int) : callI L 74 [.i a] [] = some (.b (actOk a), []) := by
  rw [callI_eq]
  unfold actOk
  by_cases h : -4 ≤ a <;> simp [body1_eq _ _ (gpL 74) g74, c74, a74, h]
theorem lSeen (a : Int) (ha : actOk a = true) : callI L 62 [.i a] [] = some (.b (!decide (a = 0)), []) := by
  have h := lActOk a
  rw [callI_eq]
  simp [body1_eq _ _ (gpL 62) g62, c62, a62, h, ha]
theorem lNameOf (a : Int) : callI L 58 [.i a] [] = some (.i (nameI a), []) := by
  rw [callI_eq]
  simp [body1_eq _ _ (gpL 58) g58, c58, a58, nameI]
theorem lActName (a : Int) (ha : actOk a = true) : callI L 24 [.i a] [] = some (.tup [.i (if a = 0 then 0 else nameI a), .b (!decide (a = 0))], []) := by
  have h1 := lSeen a ha
  have h2 := lNameOf a
  rw [callI_eq]
  by_cases h : a = 0
  · subst h
    simp [body1_eq _ _ (gpL 24) g24, c24, a24, h1, h2]
  · simp [body1_eq _ _ (gpL 24) g24, c24, a24, h1, h2, h]
theorem encLf_two (l : List Mv) : (encL true false l = .nils ∧ l = []) ∨ (encL true false l = .sl false 2 (l.map mvP) ∧ l ≠ []) := by
  cases l with
  | nil => exact .inl ⟨rfl, rfl⟩
  | cons m l => exact .inr ⟨by simp, by simp⟩
theorem hMnGraphL (q : Gr) (hs : SmallG q) : callI L 19 [encG true false q, encG true false q] [] = some (.b true, []) := by
  have h : callI L 19 [encG true false q, encG true false q] [] = viaP G 19 wkG [encG true false q, encG true false q] [] := callI_prim' (p := viaP G 19 wkG) rfl _ _
  rw [h]
  simp only [viaP, List.map_cons, List.map_nil, wkG_enc]
  exact eqMnGraph q (fun l hl => by have := hs.2 l hl; omega) (by have := hs.1; omega)
theorem trees_encGs : ∀ g : Gr, trees (encGs true true g) = true
  | [] => rfl
  | l :: g => by
    have ih := trees_encGs g
    simp only [encGs, List.map_cons, trees, Bool.and_eq_true] at ih ⊢
    refine ⟨?_, ih⟩
    have h2 : ∀ l : List Mv, trees (l.map mvP) = true := by
      intro l
      induction l with
      | nil => rfl
      | cons m l ih => simp only [List.map_cons, trees, ih, Bool.and_true]; rfl
    unfold encL
    split
    · rfl
    · simp only [tree]; exact h2 l
theorem tree_encG (g : Gr) : tree (encG true true g) = true := by
  simp only [encG, encM', tree, trees, Bool.and_true]
  split
  · rfl
  · simp only [tree, trees_encGs g]
theorem fal_encG (g : Gr) : fal (encG true true g) = encG true false g := by simp only [encG, fal, fals, fal_encM]
/-- A graph and something else, handed on. -/
theorem low_gx (g : Gr) (y : PV) (hy : tree y = true) : lowTR (some (.tup [encG true true g, y], [])) = some (.tup [encG true false g, fal y], []) := by
  have ht : trees [encG true true g, y] = true := by simp only [trees, tree_encG, hy, Bool.and_true]
  simp only [lowTR, ht, if_true, fals, fal_encG]
theorem low_gb (g : Gr) (b : Bool) : lowTR (some (.tup [encG true true g, .b b], [])) = some (.tup [encG true false g, .b b], []) := low_gx g (.b b) rfl
end Go.Am
end
