/- What the functions that the law reaches compute. -/
import Derived.Test.YtmpbcedglimhkaaAnC
import Derived.IntWalk
import Derived.Test.YtmpbcedglimhkaaCoA
import Derived.Shelf.SlSortCmp.NoneTotal
import Derived.Shelf.SlLaysF0
import Derived.Shelf.SlGeneric
import Derived.Ground.SlsfProg
import Derived.Test.YtmpbcedglimhkaaProg
import Derived.Shelf.Sort.Plain
import Derived.Shelf.Slices.In.SortNone
import Derived.Ground.NamesProg
import Derived.Shelf.Lays
section
/- The reader of a code: its object, and what a byte's choice comes to. -/
set_option maxRecDepth 10000
set_option linter.unusedSimpArgs false
set_option linter.unusedVariables false
namespace Go.Am
/-- A byte. -/
def byV (n : Nat) : PV := .sc (.int .u8 n)
def byVs (B : List Nat) : List PV := B.map byV
/-- The reader's object: the code's bytes, and the place. -/
def rd (B : List Nat) (p : Int) : OB := .box [.sl false 1 (byVs B), .i p]
theorem byVs_len (B : List Nat) : (byVs B).length = B.length := by simp [byVs]
theorem byVs_at (B : List Nat) (k : Nat) (h : k < B.length) : nth (byVs B) k = some (byV B[k]) := by
  simp [nth, byVs, h]
theorem wrD {n : Int} (h : -9223372036854775808 ≤ n ∧ n ≤ 9223372036854775807) : IntKind.i64.wrap n = n := by
  simp only [IntKind.wrap, IntKind.bits, IntKind.signed]
  simp
  omega
@[simp] theorem b_xor (k : IntKind) (a b : Int) : bin .xor (.sc (.int k a)) (.sc (.int k b)) = some (.sc (.int k (bxor k a b))) := by simp [bin]
theorem bxor_nn (a b : Int) (ha : 0 ≤ a) (ha2 : a < 4611686018427387904) (hb : 0 ≤ b) (hb2 : b < 4611686018427387904) : 0 ≤ bxor .i64 a b ∧ bxor .i64 a b < 4611686018427387904 := by
  have h1 : (BitVec.ofInt 64 a ^^^ BitVec.ofInt 64 b).toNat < 2 ^ 62 := by
    rw [BitVec.toNat_xor]
    refine Nat.xor_lt_two_pow ?_ ?_
    · rw [BitVec.toNat_ofInt]; omega
    · rw [BitVec.toNat_ofInt]; omega
  have e : bxor .i64 a b = ((BitVec.ofInt 64 a ^^^ BitVec.ofInt 64 b).toNat : Int) := by
    unfold bxor
    show IntKind.i64.wrap ((BitVec.ofInt 64 a ^^^ BitVec.ofInt 64 b).toNat : Int) = _
    exact wrD (by omega)
  rw [e]
  omega
end Go.Am
end
section
set_option maxRecDepth 10000
set_option linter.unusedSimpArgs false
set_option linter.unusedVariables false
namespace Go.Am
open Go.Proofs
theorem bytes_of : ∀ (n : Nat) (css : List (List PV)), (∀ cs ∈ css, Ty Try.prog n 5 cs) → ∃ B : List Nat, css.map (mkE Try.prog 5) = byVs B ∧ B.length = css.length ∧ ∀ b ∈ B, b < 256
  | _, [], _ => ⟨[], rfl, rfl, fun b hb => by cases hb⟩
  | 0, cs :: css, h => (h cs List.mem_cons_self).elim
  | n + 1, cs :: css, h => by
    have h1 := h cs List.mem_cons_self
    simp only [Ty, Try.underlying5] at h1
    obtain ⟨b, rfl, hb⟩ := h1
    obtain ⟨B, h3, h4, h5⟩ := bytes_of (n + 1) css (fun c hc => h c (List.mem_cons_of_mem _ hc))
    have hb2 : 0 ≤ b ∧ b < 256 := by
      simp [Lit.wf, IntKind.min, IntKind.max, IntKind.bits, IntKind.signed] at hb
      omega
    refine ⟨b.toNat :: B, ?_, by simp [h4], fun x hx => ?_⟩
    · rw [List.map_cons, h3]
      have : ((b.toNat : Nat) : Int) = b := by omega
      simp [mkE, isAg, Try.underlying5, byVs, byV, this]
    · rcases List.mem_cons.1 hx with rfl | hx
      · omega
      · exact h5 x hx
theorem ty_bytes : ∀ (n : Nat) (x : PV), Ty Try.prog n 22 [x] → ∃ B : List Nat, x = .sl false 1 (byVs B) ∧ B.length ≤ 9223372036854775807 ∧ ∀ b ∈ B, b < 256
  | 0, _, h => h.elim
  | n + 1, x, h => by
    simp only [Ty, Try.underlying22] at h
    obtain ⟨css, e, hl, hc⟩ := h
    obtain ⟨B, h1, h2, h3⟩ := bytes_of n css hc
    rw [h1] at e
    refine ⟨B, ?_, by rw [h2]; exact hl, h3⟩
    have := List.cons.inj e
    rw [this.1, show Try.prog.cellsOf 5 = 1 from by kernel_rfl]
end Go.Am
end
section
/- slices.SortFunc at pairs of numbers, by the library's contract. -/
set_option linter.unusedSimpArgs false
set_option linter.unusedVariables false
namespace Go.Am
open Go.RowKit Go.Shelf Go.Lib Go.Sort Go.Proofs
def mvP (x : Int × Int) : PV := .agg [.i x.1, .i x.2]
def encM (x : Int × Int) : List Value := [.int .i64 x.1, .int .i64 x.2]
def unM : PV → Option (Int × Int)
  | .agg [.sc (.int .i64 a), .sc (.int .i64 b)] => some (a, b)
  | _ => none
def unMs : List PV → Option (List (Int × Int))
  | [] => some []
  | x :: xs => match unM x, unMs xs with | some a, some r => some (a :: r) | _, _ => none
theorem unM_eq {x : PV} {a : Int × Int} (h : unM x = some a) : x = mvP a := by
  unfold unM at h
  split at h
  · simp only [Option.some.injEq] at h; subst h; rfl
  · cases h
theorem unMs_eq : ∀ {xs : List PV} {ds : List (Int × Int)}, unMs xs = some ds → xs = ds.map mvP
  | [], _, h => by simp only [unMs, Option.some.injEq] at h; subst h; rfl
  | x :: xs, _, h => by
    simp only [unMs] at h
    split at h
    · rename_i a r h1 h2
      simp only [Option.some.injEq] at h
      subst h
      rw [List.map_cons, ← unM_eq h1, ← unMs_eq h2]
    · cases h
@[simp] theorem unM_mvP (a : Int × Int) : unM (mvP a) = some a := rfl
@[simp] theorem unMs_map : ∀ ds : List (Int × Int), unMs (ds.map mvP) = some ds
  | [] => rfl
  | a :: ds => by simp [unMs, unMs_map ds]
/-- What a sort by a comparing function does. -/
def sortP (g : Nat) (lt : Int × Int → Int × Int → Bool) : List PV → Stack → Option (PV × Stack)
  | [.nils, .clo g' []], o => if g' = g then some (.tup [], o) else none
  | [.own id n, .clo g' []], o => if g' = g ∧ n < 4611686018427387904 then match getS o id with
      | some (.row k xs) => if k = 2 ∧ n = xs.length then match unMs xs with
          | some ds => some (.tup [], setS o id (.row 2 ((ds.mergeSort fun x y => !lt y x).map mvP)))
          | none => none
        else none
      | _ => none
    else none
  | _, _ => none
theorem Rs_mv {c : Ctx} {S : Sto} {h : Hp} : ∀ {ds : List (Int × Int)} {vs : List Value} {f : List Nat}, Rs c S h (ds.map mvP) vs f ↔ vs = ds.flatMap encM ∧ f = []
  | [], vs, f => Iff.rfl
  | a :: ds, vs, f => by
    constructor
    · rintro ⟨v1, v2, f1, f2, rfl, rfl, r1, r2⟩
      obtain ⟨rfl, rfl⟩ := Rs_mv.1 r2
      obtain ⟨_, u1, u2, g1, g2, rfl, rfl, ⟨rfl, rfl, _⟩, u3, u4, g3, g4, rfl, rfl, ⟨rfl, rfl, _⟩, rfl, rfl⟩ := r1
      exact ⟨rfl, rfl⟩
    · rintro ⟨rfl, rfl⟩
      refine ⟨encM a, ds.flatMap encM, [], [], rfl, rfl, ⟨rfl, [.int .i64 a.1], [.int .i64 a.2], [], [], rfl, rfl, ⟨rfl, rfl, rfl⟩, [.int .i64 a.2], [], [], [], rfl, rfl, ⟨rfl, rfl, rfl⟩, rfl, rfl⟩, Rs_mv.2 ⟨rfl, rfl⟩⟩
theorem flat_at : ∀ (ds : List (Int × Int)) (j : Nat), j < ds.length * 2 → (ds.flatMap encM)[j]? = some (encM ds.toArray[j / 2]!)[j % 2]!
  | [], j, h => by simp at h
  | a :: ds, 0, h => by simp [encM]
  | a :: ds, 1, h => by simp [encM]
  | a :: ds, j + 2, h => by
    simp only [List.length_cons] at h
    have ih := flat_at ds j (by omega)
    have e1 : (j + 2) / 2 = j / 2 + 1 := by omega
    have e2 : (j + 2) % 2 = j % 2 := by omega
    simp only [List.flatMap_cons]
    rw [List.getElem?_append_right (by simp [encM]), e1, e2]
    simp only [show (encM a).length = 2 from rfl, Nat.add_sub_cancel, ih]
    congr 2
    have : j / 2 < ds.length := by omega
    simp [this]
theorem flat_len (ds : List (Int × Int)) : (ds.flatMap encM).length = ds.length * 2 := by
  induction ds with
  | nil => rfl
  | cons a ds ih => simp [encM, ih]; omega
section
variable {P : Program}
theorem isGo.enters {f : Nat} (hgo : isGo P f) : ∀ args w, (callFunc f args).run P w = .ok (.enter f args) w := by
  intro args w
  obtain ⟨fn, h1, h2, h3⟩ := hgo
  have h4 : fn.body.isNone = false := by cases hb : fn.body <;> simp [hb] at h2 ⊢
  have h5 : ¬ fn.body = none := fun h => by rw [h] at h2; cases h2
  simp [callFunc, h1, h3, h4, h5]
theorem grown_of {W w' : World} (hg : Grew W w') (hb : ∀ b o, hp W b = some o → hp w' b = some o) : ∃ q os', w' = grow (W.drewN q) os' := by
  refine ⟨w'.drawn - W.drawn, w'.heap.extract W.heap.size w'.heap.size, ?_⟩
  have h1 := hg.os; have h2 := hg.tape; have h3 := hg.output; have h4 := hg.size; have h5 := hg.dr
  have hh : w'.heap = W.heap ++ w'.heap.extract W.heap.size w'.heap.size := by
    apply Array.ext_getElem?
    intro i
    by_cases hi : i < W.heap.size
    · rw [Array.getElem?_append_left hi]
      have := hb i W.heap[i] (by simp [hp, hi])
      simp only [hp] at this
      rw [this]; simp [hi]
    · rw [Array.getElem?_append_right (by omega)]
      simp only [Array.getElem?_extract]
      split
      · congr 1; omega
      · rw [Array.getElem?_eq_none (by omega)]
  have hd : w'.drawn = W.drawn + (w'.drawn - W.drawn) := by omega
  cases w'; cases W
  simp only [grow, World.drewN] at *
  subst h1 h2 h3
  congr 1
theorem lays_of {g : Nat} {x y : Int × Int} {r : Int} (hg : Good P g [mvP x, mvP y] [] (.i r) []) (W : World) :
    Calls P g #[.agg (encM x).toArray, .agg (encM y).toArray] W fun e w' => e = .returned (.int .i64 r) ∧ ∃ q os', w' = grow (W.drewN q) os' := by
  have hv : ∀ z : Int × Int, RVal (cAll W) (gt []) (hp W) (mvP z) (.agg (encM z).toArray) := fun z => ⟨encM z, rfl, rfl, ⟨[.int .i64 z.1], [.int .i64 z.2], [], [], rfl, rfl, ⟨rfl, rfl, rfl⟩, [.int .i64 z.2], [], [], [], rfl, rfl, ⟨rfl, rfl, rfl⟩, rfl, rfl⟩⟩
  refine (hg.2 (cAll W) (fun _ => []) W _ (cAll_ok W) ⟨_, _, rfl, hv x, _, _, rfl, hv y, rfl⟩).mono fun e w' hend => ?_
  obtain ⟨_, v, c', fp', f', rfl, hgw, hst, hadv, hfr, hret⟩ := hend
  have hv' : v = .int .i64 r := by
    have h : [v] = [Value.int .i64 r] := hret.2.1
    simpa using h
  subst hv'
  exact ⟨rfl, grown_of hgw fun b o hb => hst.okF b o (.inl (hadv.F b o hb))⟩
theorem sortP_good {ρ : Ren} (L : SlLaysF0.n6 P ρ) (aE : ∀ w, (isAgg (ρ.t 24)).run P w = .ok true w) (zE : ∀ w, (Go.sizeOf (ρ.t 24)).run P w = .ok 2 w) (hgo : isGo P (ρ.f 6)) {g : Nat} {cf : Int × Int → Int × Int → Int} (hO : SWO (ltOf cf))
    (hT : ∀ x y, (ltOf cf) x y = false → (ltOf cf) y x = false → x = y) (hc : ∀ x y, Good P g [mvP x, mvP y] [] (.i (cf x y)) []) {args : List PV} {o o' : Stack} {r : PV} (e : sortP g (ltOf cf) args o = some (r, o')) : Good P (ρ.f 6) args o r o' := by
  refine ⟨hgo, fun c fp w vals ok hr => ?_⟩
  unfold sortP at e
  split at e
  · -- nil
    rename_i g'
    split at e
    · rename_i hg
      subst hg
      simp only [Option.some.injEq, Prod.mk.injEq] at e
      obtain ⟨rfl, rfl⟩ := e
      obtain ⟨v, _, rfl, ⟨_, A, hv⟩, u, _, rfl, ⟨_, cv, hu, _, hcv⟩, rfl⟩ := hr
      have hv : v = .slice A 0 0 := by simpa using hv
      subst hv
      refine (AnyF.slices_SortFunc_none L A 0 u w).mono fun e w' hend => ?_
      obtain ⟨rfl, rfl⟩ := hend
      exact ⟨⟨rfl, fun id ob h => ⟨ob, h⟩⟩, _, c, fp, [], rfl, Grew.refl _, ok, Adv.refl _ _, Free.nil, [], rfl, rfl, rfl⟩
    · cases e
  · -- a row
    rename_i id n g'
    split at e
    · rename_i hg
      obtain ⟨rfl, hn⟩ := hg
      split at e
      · rename_i k xs hs
        split at e
        · rename_i hk
          obtain ⟨rfl, rfl⟩ := hk
          split at e
          · rename_i ds hds
            simp only [Option.some.injEq, Prod.mk.injEq] at e
            obtain ⟨rfl, rfl⟩ := e
            obtain rfl := unMs_eq hds
            rw [← gt_getS] at hs
            have hid : id.1 < o.length := gt_lv o id _ hs
            obtain ⟨v, _, rfl, hv, u, _, rfl, hu, rfl⟩ := hr
            obtain ⟨_, v', ev, _, hv⟩ := (show R c (gt o) (hp w) (.own id (ds.map mvP).length) [v] [] from hv)
            have : v = v' := by simpa using ev
            subst this
            obtain ⟨_, cv, hu, _, hcv⟩ := (show R c (gt o) (hp w) (.clo g' []) [u] [] from hu)
            have hcv : cv = [] := hcv.1
            subst hcv
            have hu : u = .func (.func g') #[] #[] := by simpa using hu
            subst hu
            simp only [OwnOK, hs] at hv
            have hv := hv.2 trivial
            subst hv
            simp only [List.length_map] at hn ⊢
            obtain ⟨htr, hkr, ro⟩ := ok.ob id _ hs
            generalize hsd : (ds.mergeSort fun x y => !ltOf cf y x) = ds'
            have hsl : ds'.length = ds.length := by rw [← hsd]; exact List.length_mergeSort _
            have hres : ∀ vs', vs' = [Value.slice (c.L id).base ds.length (c.L id).cap, .func (.func g') #[] #[]] → vs'.toArray = #[Value.slice (c.L id).base ds.length (c.L id).cap, .func (.func g') #[] #[]] := fun _ h => by rw [h]
            rcases ro with ⟨hx, hcap, hfp⟩ | ⟨fq, hb, ⟨cur, et, wsr, g1, g2, g3, g4, g5, g6⟩, hfp⟩
            · have hd0 : ds = [] := by simpa using hx
              subst hd0
              have : ds' = [] := List.length_eq_zero_iff.1 hsl
              subst this
              have hsame : setS o id (.row 2 ([].map mvP)) = o := setS_same o id _ (by rw [← gt_getS]; exact hs)
              rw [hsame]
              refine (AnyF.slices_SortFunc_none L _ _ _ w).mono fun e w' hend => ?_
              obtain ⟨rfl, rfl⟩ := hend
              exact ⟨⟨rfl, fun id ob h => ⟨ob, h⟩⟩, _, c, fp, [], rfl, Grew.refl _, ok, Adv.refl _ _, Free.nil, [], rfl, rfl, rfl⟩
            · obtain ⟨rfl, rfl⟩ := Rs_mv.1 g5
              simp only [List.length_map] at g2 g6
              have hlt := hp_lt g1
              have hcurat : ∀ j, j < ds.length * 2 → cur[j]? = some (encM ds.toArray[j / 2]!)[j % 2]! := fun j hj => by
                rw [← flat_at ds j hj, ← g6, List.getElem?_take, if_pos hj]; simp
              have hH : HoldsK encM 2 w (c.L id).blk 0 ds.toArray := by
                intro j hj
                simp only [size_flatK, List.size_toArray] at hj
                refine ⟨?_, ?_⟩
                · rw [Nat.zero_add, cell_of_block g1, hcurat j hj, get_flatK encM 2 ds.toArray j (by simpa using hj)]
                  rfl
                · have : w.heap[(c.L id).blk]? = some (.cells cur et (0, 0)) := g1
                  simp [World.frozen?, this]
              have hcmp : CmpLays P g' #[] encM 2 cf (c.L id).blk 0 ds.toArray.size w := fun _ _ _ _ x y => lays_of (hc x y) _
              have hcon := AnyQ.slices_SortFunc_total L 2 aE zE encM (fun _ => rfl) (fun x v hv => by simp [encM] at hv; rcases hv with rfl | rfl <;> rfl) cf hO g' #[] (c.L id).blk 0 (c.L id).cap ds.toArray w (hc default default).1.enters hcmp hH hlt (by simpa using hn) hT
              rw [hb]
              have hargs : ([Value.slice (some ⟨(c.L id).blk, 0, none⟩) ds.length (c.L id).cap, .func (.func g') #[] #[]] : List Value).toArray = #[Value.slice (some ⟨(c.L id).blk, 0, none⟩) ds.toArray.size (c.L id).cap, .func (.func g') #[] #[]] := by simp
              rw [hargs]
              refine hcon.mono fun e w' hend => ?_
              obtain ⟨rfl, m, os, rfl⟩ := hend
              simp only [List.toList_toArray, hsd]
              -- the new world
              have hheap : ∀ b, b < w.heap.size → hp (sortWorldK encM 2 w (c.L id).blk 0 m ds'.toArray os) b = if (c.L id).blk = b then (hp w b).map (onCells (Go.Sort.putCells _root_.id 0 (flatK encM 2 ds'.toArray))) else hp w b := by
                intro b hb'
                simp only [sortWorldK, putRowK, putRow, mapBlock, grow, hp, Sort.ahead]
                rw [Array.getElem?_append_left (by simpa using hb'), Array.getElem?_modify]
              have hother : ∀ b, b < w.heap.size → b ≠ (c.L id).blk → hp (sortWorldK encM 2 w (c.L id).blk 0 m ds'.toArray os) b = hp w b := fun b hb' hne => by rw [hheap b hb', if_neg (Ne.symm hne)]
              have hblk := hheap _ hlt
              rw [if_pos rfl, g1] at hblk
              simp only [Option.map_some, onCells] at hblk
              generalize hcur' : Go.Sort.putCells _root_.id 0 (flatK encM 2 ds'.toArray) cur = cur' at hblk
              have hsz' : cur'.size = cur.size := by rw [← hcur']; simp [Go.Sort.putCells]
              have htake : cur'.toList.take (ds'.length * 2) = ds'.flatMap encM := by
                apply List.ext_getElem?
                intro j
                rw [List.getElem?_take]
                by_cases hj : j < ds'.length * 2
                · rw [if_pos hj, flat_at ds' j hj, ← hcur']
                  have hjc : j < cur.size := by
                    have := Nat.mul_le_mul_right 2 g2
                    omega
                  simp only [Go.Sort.putCells, Array.getElem?_toList, Array.getElem?_mapIdx, Array.getElem?_eq_getElem hjc, Option.map_some, Nat.zero_le, true_and, Nat.zero_add, size_flatK, List.size_toArray, hj, if_true, Nat.sub_zero, Option.some.injEq]
                  rw [get_flatK encM 2 ds'.toArray j (by simpa using hj)]
                  rfl
                · rw [if_neg hj, List.getElem?_eq_none (by rw [flat_len]; omega)]
              have hfz : ∀ a : Addr, a.block < w.heap.size → (sortWorldK encM 2 w (c.L id).blk 0 m ds'.toArray os).frozen? a = w.frozen? a := by
                intro a ha
                have h1 := hheap a.block ha
                simp only [hp] at h1
                by_cases hab : (c.L id).blk = a.block
                · have h2 : w.heap[a.block]? = some (.cells cur et (0, 0)) := by rw [← hab]; exact g1
                  rw [if_pos hab, h2] at h1
                  simp only [Option.map_some, onCells] at h1
                  simp only [World.frozen?, h1, h2]
                · rw [if_neg hab] at h1
                  simp only [World.frozen?, h1]
              have ha : Adv c (setL c id (c.L id)) (gt o) (upd (gt o) id (.row 2 (ds'.map mvP))) := Adv.row hs (by simp [hsl]) (fun _ => rfl)
              have hfq : (c.L id).blk ∈ fp id := by rw [hfp]; exact List.mem_cons_self
              have hst : StOK (setL c id (c.L id)) (upd (gt o) id (.row 2 (ds'.map mvP))) (hp (sortWorldK encM 2 w (c.L id).blk 0 m ds'.toArray os)) (setF fp id [(c.L id).blk]) := by
                refine ok.reset hs ha ?_ (by simp) (fun b hb' => ?_) (fun b hb' hb2 => hother b hb' (fun e => hb2 (by rw [e]; exact hfq)))
                · refine ⟨?_, ?_, .inr ⟨[], by simpa [setL] using hb, ⟨cur', et, ds'.flatMap encM, by simpa [setL] using hblk, by simp only [setL, if_true, List.length_map]; omega, by simpa [setL] using g3, by simp only [setL, if_true, hsz', g4], Rs_mv.2 ⟨rfl, rfl⟩, by rw [List.length_map]; exact htake⟩, by simp [setL]⟩⟩
                  · clear hsd
                    induction ds' with
                    | nil => rfl
                    | cons a r _ => exact (by
                        have : ∀ l : List (Int × Int), trees (l.map mvP) = true := fun l => by
                          induction l with
                          | nil => rfl
                          | cons b l ih => simp [trees, tree, mvP, ih]
                        exact this _)
                  · intro x hx
                    obtain ⟨a, _, rfl⟩ := List.mem_map.1 hx
                    exact ⟨rfl, rfl⟩
                · simp only [List.mem_singleton] at hb'
                  subst hb'
                  exact ⟨ok.nF id _ hs _ hfq, fun id' ob' hne' hs' => ok.dj id id' _ ob' hs hs' (Ne.symm hne') _ hfq⟩
              refine ⟨shape_setS hs, .tuple #[], setL c id (c.L id), setF fp id [(c.L id).blk], [], rfl, ⟨rfl, rfl, rfl, ?_, hfz, ?_⟩, ?_, ?_, Free.nil, [], rfl, rfl, rfl⟩
              · simp [sortWorldK, grow, putRowK, putRow, mapBlock, Sort.ahead]
              · simp [sortWorldK, grow, putRowK, putRow, mapBlock, Sort.ahead]
              · rw [gt_setS hid]; exact hst
              · rw [gt_setS hid]; exact ha
          · cases e
        · cases e
      · cases e
    · cases e
  · cases e
end
end Go.Am
end
section
/- The copy of a slice of pairs, as a primitive function: an empty slice may be nil or not. -/
set_option linter.unusedSimpArgs false
set_option linter.unusedVariables false
namespace Go.Am
open Go.Proofs Go.Sort Go.Shelf Go.RowKit
/-- The copy of a row of pairs. -/
def cloneMv : List PV → Stack → Option (PV × Stack)
  | [.sl false k xs], [] => match unMs xs with
      | some ds => if k = 2 ∧ ds.length ≤ 4294967296 then some (.sl true 2 (ds.map mvP), []) else none
      | none => none
  | [.nils], [] => some (.sl true 2 [], [])
  | _, _ => none
theorem ret_nils {c : Ctx} {S : Sto} {h : Hp} {v : Value} {f : List Nat} (k : Nat) (r : Ret c S h .nils v f) : Ret c S h (.sl true k []) v f := by
  obtain ⟨hf, A, hv⟩ := r
  exact ⟨rfl, fun x hx => (by cases hx), A, 0, hv, .inl ⟨rfl, rfl, hf⟩⟩
theorem cloneMv_good {P : Program} {f : Nat} (h0 : ∀ A cp, Good P f [.sc (.slice A 0 cp)] [] (if A.isNone = true then .nils else .sl true 2 []) [])
    (h1 : ∀ (d : Int × Int) (ds : List (Int × Int)), (d :: ds).length ≤ 4294967296 → Good P f [.sl false 2 ((d :: ds).map mvP)] [] (.sl true 2 ((d :: ds).map mvP)) []) {args : List PV} {o o' : Stack} {r : PV} (e : cloneMv args o = some (r, o')) : Good P f args o r o' := by
  have hz : ∀ x, (∀ c S h v, RVal c S h x v → ∃ A cp, v = .slice A 0 cp) → Good P f [x] [] (.sl true 2 []) [] := fun x hx => by
    refine ⟨(h0 none 0).1, fun c fp w vals ok hr => ?_⟩
    obtain ⟨v, _, rfl, hv, rfl⟩ := hr
    obtain ⟨A, cp, rfl⟩ := hx _ _ _ _ hv
    have hr2 : RVals c (gt []) (hp w) [.sc (.slice A 0 cp)] [.slice A 0 cp] := ⟨_, _, rfl, ⟨rfl, rfl, rfl⟩, rfl⟩
    refine ((h0 A cp).2 c fp w _ ok hr2).mono fun e w' hend => ?_
    obtain ⟨hs, v, c', fp', f', a1, a2, a3, a4, a5, a6⟩ := hend
    refine ⟨hs, v, c', fp', f', a1, a2, a3, a4, a5, ?_⟩
    cases A with
    | none => exact ret_nils 2 (by simpa using a6)
    | some a => simpa using a6
  unfold cloneMv at e
  split at e
  · rename_i k xs
    split at e
    · rename_i ds hds
      split at e
      · rename_i hk
        obtain ⟨rfl, hl⟩ := hk
        simp only [Option.some.injEq, Prod.mk.injEq] at e
        obtain ⟨rfl, rfl⟩ := e
        obtain rfl := unMs_eq hds
        cases ds with
        | nil =>
          refine hz _ fun c S h v hv => ?_
          obtain ⟨_, _, _, A, cp, hv, _⟩ := hv
          exact ⟨A, cp, (List.cons.inj hv).1⟩
        | cons d ds => exact h1 d ds hl
      · cases e
    · cases e
  · simp only [Option.some.injEq, Prod.mk.injEq] at e
    obtain ⟨rfl, rfl⟩ := e
    refine hz _ fun c S h v hv => ?_
    obtain ⟨_, A, hv⟩ := hv
    exact ⟨A, 0, (List.cons.inj hv).1⟩
  · cases e
end Go.Am
end
section
/- The library's sort at this program, as the kit's tool lays it. -/
namespace Go.Proofs
open Go.Shelf
def Try.sortMv_ren : Go.Shelf.Ren := ⟨fun | 6 => 96 | 15 => 112 | 14 => 111 | 28 => 133 | 29 => 134 | 20 => 125 | 21 => 126 | 22 => 127 | 23 => 128 | 24 => 129 | 25 => 130 | 26 => 131 | 27 => 132 | 46 => 146 | 47 => 147 | 48 => 148 | 49 => 149 | 50 => 150 | 57 => 154 | n => n, fun | 22 => 45 | 24 => 49 | 25 => 97 | 3 => 3 | 39 => 120 | 0 => 0 | 53 => 142 | 55 => 144 | 4 => 4 | 46 => 136 | 45 => 135 | 50 => 46 | 5 => 5 | 9 => 9 | 66 => 153 | 70 => 157 | 76 => 162 | 77 => 163 | n => n, fun | n => n⟩
theorem Try.sortMv : Go.Proofs.SlLaysF0.n6 Try.prog Try.sortMv_ren := {
  mixed := by kernel_rfl
  f6 := ⟨Try.f96.name, by decide, Try.func96.trans (congrArg some (by kernel_rfl))⟩
  f14 := ⟨Try.f111.name, by decide, Try.func111.trans (congrArg some (by kernel_rfl))⟩
  f15 := Try.func112.trans (congrArg some (by kernel_rfl))
  f20 := ⟨Try.f125.name, by decide, Try.func125.trans (congrArg some (by kernel_rfl))⟩
  f21 := ⟨Try.f126.name, by decide, Try.func126.trans (congrArg some (by kernel_rfl))⟩
  f22 := ⟨Try.f127.name, by decide, Try.func127.trans (congrArg some (by kernel_rfl))⟩
  f23 := ⟨Try.f128.name, by decide, Try.func128.trans (congrArg some (by kernel_rfl))⟩
  f24 := ⟨Try.f129.name, by decide, Try.func129.trans (congrArg some (by kernel_rfl))⟩
  f25 := ⟨Try.f130.name, by decide, Try.func130.trans (congrArg some (by kernel_rfl))⟩
  f26 := ⟨Try.f131.name, by decide, Try.func131.trans (congrArg some (by kernel_rfl))⟩
  f27 := ⟨Try.f132.name, by decide, Try.func132.trans (congrArg some (by kernel_rfl))⟩
  f28 := Try.func133.trans (congrArg some (by kernel_rfl))
  f29 := Try.func134.trans (congrArg some (by kernel_rfl))
  f46 := ⟨Try.f146.name, by decide, Try.func146.trans (congrArg some (by kernel_rfl))⟩
  f47 := Try.func147.trans (congrArg some (by kernel_rfl))
  f48 := Try.func148.trans (congrArg some (by kernel_rfl))
  f49 := ⟨Try.f149.name, by decide, Try.func149.trans (congrArg some (by kernel_rfl))⟩
  f50 := ⟨Try.f150.name, by decide, Try.func150.trans (congrArg some (by kernel_rfl))⟩
  f57 := ⟨Try.f154.name, by decide, Try.func154.trans (congrArg some (by kernel_rfl))⟩
  t0 := Try.underlying0
  a0 := Try.isAgg0
  z0 := Try.sizeOf0
  v0 := Try.zeroValue0
  t3 := Try.underlying3
  a3 := Try.isAgg3
  z3 := Try.sizeOf3
  v3 := Try.zeroValue3
  t4 := Try.underlying4
  a4 := Try.isAgg4
  z4 := Try.sizeOf4
  v4 := Try.zeroValue4
  t5 := Try.underlying5
  a5 := Try.isAgg5
  z5 := Try.sizeOf5
  v5 := Try.zeroValue5
  t9 := Try.underlying9
  a9 := Try.isAgg9
  z9 := Try.sizeOf9
  v9 := Try.zeroValue9
  t22 := Try.underlying45
  a22 := Try.isAgg45
  z22 := Try.sizeOf45
  v22 := Try.zeroValue45
  t25 := Try.underlying97
  a25 := Try.isAgg97
  z25 := Try.sizeOf97
  v25 := Try.zeroValue97
  t39 := Try.underlying120
  a39 := Try.isAgg120
  z39 := Try.sizeOf120
  v39 := Try.zeroValue120
  t45 := Try.underlying135
  a45 := Try.isAgg135
  z45 := Try.sizeOf135
  v45 := Try.zeroValue135
  t46 := Try.underlying136
  a46 := Try.isAgg136
  z46 := Try.sizeOf136
  v46 := Try.zeroValue136
  t50 := Try.underlying46
  a50 := Try.isAgg46
  z50 := Try.sizeOf46
  v50 := Try.zeroValue46
  t53 := Try.underlying142
  a53 := Try.isAgg142
  z53 := Try.sizeOf142
  v53 := Try.zeroValue142
  t55 := Try.underlying144
  a55 := Try.isAgg144
  z55 := Try.sizeOf144
  v55 := Try.zeroValue144
  t66 := Try.underlying153
  a66 := Try.isAgg153
  z66 := Try.sizeOf153
  v66 := Try.zeroValue153
  t70 := Try.underlying157
  a70 := Try.isAgg157
  z70 := Try.sizeOf157
  v70 := Try.zeroValue157
  t76 := Try.underlying162
  a76 := Try.isAgg162
  z76 := Try.sizeOf162
  v76 := Try.zeroValue162
  t77 := Try.underlying163
  a77 := Try.isAgg163
  z77 := Try.sizeOf163
  v77 := Try.zeroValue163 }
end Go.Proofs
end
section
/- slices.Sort at numbers, by the library's contract. -/
set_option linter.unusedSimpArgs false
set_option linter.unusedVariables false
namespace Go.Am
open Go.RowKit Go.Shelf Go.Lib Go.Sort Go.Proofs
def unN : PV → Option Int
  | .sc (.int .i64 a) => some a
  | _ => none
def unNs : List PV → Option (List Int)
  | [] => some []
  | x :: xs => match unN x, unNs xs with | some a, some r => some (a :: r) | _, _ => none
theorem unN_eq {x : PV} {a : Int} (h : unN x = some a) : x = .i a := by
  unfold unN at h
  split at h
  · simp only [Option.some.injEq] at h; subst h; rfl
  · cases h
theorem unNs_eq : ∀ {xs : List PV} {ds : List Int}, unNs xs = some ds → xs = ds.map PV.i
  | [], _, h => by simp only [unNs, Option.some.injEq] at h; subst h; rfl
  | x :: xs, _, h => by
    simp only [unNs] at h
    split at h
    · rename_i a r h1 h2
      simp only [Option.some.injEq] at h
      subst h
      rw [List.map_cons, ← unN_eq h1, ← unNs_eq h2]
    · cases h
@[simp] theorem unN_i (a : Int) : unN (.i a) = some a := rfl
@[simp] theorem unNs_map : ∀ ds : List Int, unNs (ds.map PV.i) = some ds
  | [] => rfl
  | a :: ds => by simp [unNs, unNs_map ds]
/-- Numbers in order. -/
def sortL (ds : List Int) : List Int := ds.mergeSort fun x y => decide (x ≤ y)
/-- What a sort of numbers does. -/
def sortI : List PV → Stack → Option (PV × Stack)
  | [.nils], o => some (.tup [], o)
  | [.own id n], o => if n < 4611686018427387904 then match getS o id with
      | some (.row k xs) => if k = 1 ∧ n = xs.length then match unNs xs with
          | some ds => some (.tup [], setS o id (.row 1 ((sortL ds).map PV.i)))
          | none => none
        else none
      | _ => none
    else none
  | _, _ => none
theorem Rs_i {c : Ctx} {S : Sto} {h : Hp} : ∀ {ds : List Int} {vs : List Value} {f : List Nat}, Rs c S h (ds.map PV.i) vs f ↔ vs = ds.map (Value.int .i64) ∧ f = []
  | [], vs, f => Iff.rfl
  | a :: ds, vs, f => by
    constructor
    · rintro ⟨v1, v2, f1, f2, rfl, rfl, r1, r2⟩
      obtain ⟨rfl, rfl⟩ := Rs_i.1 r2
      obtain ⟨rfl, rfl, _⟩ := r1
      exact ⟨rfl, rfl⟩
    · rintro ⟨rfl, rfl⟩
      exact ⟨[.int .i64 a], ds.map (Value.int .i64), [], [], rfl, rfl, ⟨rfl, rfl, rfl⟩, Rs_i.2 ⟨rfl, rfl⟩⟩
section
variable {P : Program}
theorem sortI_good {ρ : Ren} (L : Lays.n189 P ρ) (hgo : isGo P (ρ.f 189)) {args : List PV} {o o' : Stack} {r : PV} (e : sortI args o = some (r, o')) : Good P (ρ.f 189) args o r o' := by
  refine ⟨hgo, fun c fp w vals ok hr => ?_⟩
  unfold sortI at e
  split at e
  · -- nil
    simp only [Option.some.injEq, Prod.mk.injEq] at e
    obtain ⟨rfl, rfl⟩ := e
    obtain ⟨v, _, rfl, ⟨_, A, hv⟩, rfl⟩ := hr
    have hv : v = .slice A 0 0 := by simpa using hv
    subst hv
    refine (Any.slices_Sort_int_none L A 0 w).mono fun e w' hend => ?_
    obtain ⟨rfl, rfl⟩ := hend
    exact ⟨⟨rfl, fun id ob h => ⟨ob, h⟩⟩, _, c, fp, [], rfl, Grew.refl _, ok, Adv.refl _ _, Free.nil, [], rfl, rfl, rfl⟩
  · -- a row
    rename_i id n
    split at e
    · rename_i hn
      split at e
      · rename_i k xs hs
        split at e
        · rename_i hk
          obtain ⟨rfl, rfl⟩ := hk
          split at e
          · rename_i ds hds
            simp only [Option.some.injEq, Prod.mk.injEq] at e
            obtain ⟨rfl, rfl⟩ := e
            obtain rfl := unNs_eq hds
            rw [← gt_getS] at hs
            have hid : id.1 < o.length := gt_lv o id _ hs
            obtain ⟨v, _, rfl, hv, rfl⟩ := hr
            obtain ⟨_, v', ev, _, hv⟩ := (show R c (gt o) (hp w) (.own id (ds.map PV.i).length) [v] [] from hv)
            have : v = v' := by simpa using ev
            subst this
            simp only [OwnOK, hs] at hv
            have hv := hv.2 trivial
            subst hv
            simp only [List.length_map] at hn ⊢
            obtain ⟨htr, hkr, ro⟩ := ok.ob id _ hs
            generalize hsd : sortL ds = ds'
            have hsl : ds'.length = ds.length := by rw [← hsd]; exact List.length_mergeSort _
            rcases ro with ⟨hx, hcap, hfp⟩ | ⟨fq, hb, ⟨cur, et, wsr, g1, g2, g3, g4, g5, g6⟩, hfp⟩
            · have hd0 : ds = [] := by simpa using hx
              subst hd0
              have : ds' = [] := List.length_eq_zero_iff.1 hsl
              subst this
              have hsame : setS o id (.row 1 ([].map PV.i)) = o := setS_same o id _ (by rw [← gt_getS]; exact hs)
              rw [hsame]
              refine (Any.slices_Sort_int_none L _ _ w).mono fun e w' hend => ?_
              obtain ⟨rfl, rfl⟩ := hend
              exact ⟨⟨rfl, fun id ob h => ⟨ob, h⟩⟩, _, c, fp, [], rfl, Grew.refl _, ok, Adv.refl _ _, Free.nil, [], rfl, rfl, rfl⟩
            · obtain ⟨rfl, rfl⟩ := Rs_i.1 g5
              simp only [List.length_map, Nat.mul_one] at g2 g6
              have hlt := hp_lt g1
              have hcurat : ∀ j, j < ds.length → cur[j]? = some (Value.int .i64 ds.toArray[j]!) := fun j hj => by
                have := congrArg (fun l => l[j]?) g6
                simp only [List.getElem?_take, if_pos hj, List.getElem?_map] at this
                rw [← Array.getElem?_toList, this]
                simp [hj]
              have hH : Holds (Value.int .i64) w (c.L id).blk 0 ds.toArray := by
                intro j hj
                simp only [List.size_toArray] at hj
                refine ⟨?_, ?_⟩
                · rw [Nat.zero_add, cell_of_block g1, hcurat j hj]
                · have : w.heap[(c.L id).blk]? = some (.cells cur et (0, 0)) := g1
                  simp [World.frozen?, this]
              have hcon := Any.slices_Sort_int L (c.L id).blk 0 (c.L id).cap ds w hH hlt (by simpa using hn)
              rw [hb]
              have hargs : ([Value.slice (some ⟨(c.L id).blk, 0, none⟩) ds.length (c.L id).cap] : List Value).toArray = #[Value.slice (some ⟨(c.L id).blk, 0, none⟩) ds.length (c.L id).cap] := rfl
              rw [hargs]
              refine hcon.mono fun e w' hend => ?_
              obtain ⟨rfl, m, os, rfl⟩ := hend
              have hsd' : (ds.mergeSort fun x y => decide (x ≤ y)) = ds' := hsd
              simp only [hsd']
              -- the new world
              have hheap : ∀ b, b < w.heap.size → hp (grow (putRow (Value.int .i64) (Sort.ahead w m) (c.L id).blk 0 ds'.toArray) os) b = if (c.L id).blk = b then (hp w b).map (onCells (Go.Sort.putCells (Value.int .i64) 0 ds'.toArray)) else hp w b := by
                intro b hb'
                simp only [putRow, mapBlock, grow, hp, Sort.ahead]
                rw [Array.getElem?_append_left (by simpa using hb'), Array.getElem?_modify]
              have hother : ∀ b, b < w.heap.size → b ≠ (c.L id).blk → hp (grow (putRow (Value.int .i64) (Sort.ahead w m) (c.L id).blk 0 ds'.toArray) os) b = hp w b := fun b hb' hne => by rw [hheap b hb', if_neg (Ne.symm hne)]
              have hblk := hheap _ hlt
              rw [if_pos rfl, g1] at hblk
              simp only [Option.map_some, onCells] at hblk
              generalize hcur' : Go.Sort.putCells (Value.int .i64) 0 ds'.toArray cur = cur' at hblk
              have hsz' : cur'.size = cur.size := by rw [← hcur']; simp [Go.Sort.putCells]
              have htake : cur'.toList.take ds'.length = ds'.map (Value.int .i64) := by
                apply List.ext_getElem?
                intro j
                rw [List.getElem?_take]
                by_cases hj : j < ds'.length
                · rw [if_pos hj, ← hcur']
                  have hjc : j < cur.size := by omega
                  simp only [Go.Sort.putCells, Array.getElem?_toList, Array.getElem?_mapIdx, Array.getElem?_eq_getElem hjc, Option.map_some, Nat.zero_le, true_and, Nat.zero_add, List.size_toArray, hj, if_true, Nat.sub_zero]
                  simp [hj]
                · rw [if_neg hj, List.getElem?_eq_none (by simp; omega)]
              have hfz : ∀ a : Addr, a.block < w.heap.size → (grow (putRow (Value.int .i64) (Sort.ahead w m) (c.L id).blk 0 ds'.toArray) os).frozen? a = w.frozen? a := by
                intro a ha
                have h1 := hheap a.block ha
                simp only [hp] at h1
                by_cases hab : (c.L id).blk = a.block
                · have h2 : w.heap[a.block]? = some (.cells cur et (0, 0)) := by rw [← hab]; exact g1
                  rw [if_pos hab, h2] at h1
                  simp only [Option.map_some, onCells] at h1
                  simp only [World.frozen?, h1, h2]
                · rw [if_neg hab] at h1
                  simp only [World.frozen?, h1]
              have ha : Adv c (setL c id (c.L id)) (gt o) (upd (gt o) id (.row 1 (ds'.map PV.i))) := Adv.row hs (by simp [hsl]) (fun _ => rfl)
              have hfq : (c.L id).blk ∈ fp id := by rw [hfp]; exact List.mem_cons_self
              have hst : StOK (setL c id (c.L id)) (upd (gt o) id (.row 1 (ds'.map PV.i))) (hp (grow (putRow (Value.int .i64) (Sort.ahead w m) (c.L id).blk 0 ds'.toArray) os)) (setF fp id [(c.L id).blk]) := by
                refine ok.reset hs ha ?_ (by simp) (fun b hb' => ?_) (fun b hb' hb2 => hother b hb' (fun e => hb2 (by rw [e]; exact hfq)))
                · refine ⟨?_, ?_, .inr ⟨[], by simpa [setL] using hb, ⟨cur', et, ds'.map (Value.int .i64), by simpa [setL] using hblk, by simp only [setL, if_true, List.length_map]; omega, by simpa [setL] using g3, by simp only [setL, if_true, hsz', g4], Rs_i.2 ⟨rfl, rfl⟩, by rw [List.length_map, Nat.mul_one]; exact htake⟩, by simp [setL]⟩⟩
                  · clear hsd hsd' hblk hcur' hsz' htake hfz hheap hother ha
                    have : ∀ l : List Int, trees (l.map PV.i) = true := fun l => by
                      induction l with
                      | nil => rfl
                      | cons b l ih => simp [trees, tree, ih]
                    exact this _
                  · intro x hx
                    obtain ⟨a, _, rfl⟩ := List.mem_map.1 hx
                    exact ⟨rfl, rfl⟩
                · simp only [List.mem_singleton] at hb'
                  subst hb'
                  exact ⟨ok.nF id _ hs _ hfq, fun id' ob' hne' hs' => ok.dj id id' _ ob' hs hs' (Ne.symm hne') _ hfq⟩
              refine ⟨shape_setS hs, .tuple #[], setL c id (c.L id), setF fp id [(c.L id).blk], [], rfl, ⟨rfl, rfl, rfl, ?_, hfz, ?_⟩, ?_, ?_, Free.nil, [], rfl, rfl, rfl⟩
              · simp [grow, putRow, mapBlock, Sort.ahead]
              · simp [grow, putRow, mapBlock, Sort.ahead]
              · rw [gt_setS hid]; exact hst
              · rw [gt_setS hid]; exact ha
          · cases e
        · cases e
      · cases e
    · cases e
  · cases e
end
end Go.Am
end
section
/- The library's sort at this program, as the kit's tool lays it. -/
namespace Go.Proofs
open Go.Shelf
def Try.sortI_ren : Go.Shelf.Ren := ⟨fun | 189 => 137 | 125 => 112 | 257 => 152 | 128 => 133 | 129 => 134 | 294 => 155 | 295 => 156 | 296 => 157 | 297 => 158 | 298 => 159 | 299 => 160 | 216 => 161 | 300 => 162 | 301 => 163 | 328 => 164 | 329 => 147 | 330 => 148 | 331 => 165 | 332 => 166 | 215 => 116 | 343 => 167 | n => n, fun | 28 => 27 | 3 => 3 | 46 => 120 | 0 => 0 | 51 => 142 | 53 => 144 | 4 => 4 | 183 => 136 | 182 => 135 | 131 => 46 | 5 => 5 | 9 => 9 | 218 => 153 | 222 => 157 | 228 => 162 | 229 => 163 | n => n, fun | n => n⟩
theorem Try.sortI : Go.Proofs.Lays.n189 Try.prog Try.sortI_ren := {
  mixed := by kernel_rfl
  f125 := Try.func112.trans (congrArg some (by kernel_rfl))
  f128 := Try.func133.trans (congrArg some (by kernel_rfl))
  f129 := Try.func134.trans (congrArg some (by kernel_rfl))
  f189 := Try.func137.trans (congrArg some (by kernel_rfl))
  f215 := Try.func116.trans (congrArg some (by kernel_rfl))
  f216 := Try.func161.trans (congrArg some (by kernel_rfl))
  f257 := Try.func152.trans (congrArg some (by kernel_rfl))
  f294 := Try.func155.trans (congrArg some (by kernel_rfl))
  f295 := Try.func156.trans (congrArg some (by kernel_rfl))
  f296 := Try.func157.trans (congrArg some (by kernel_rfl))
  f297 := Try.func158.trans (congrArg some (by kernel_rfl))
  f298 := Try.func159.trans (congrArg some (by kernel_rfl))
  f299 := Try.func160.trans (congrArg some (by kernel_rfl))
  f300 := Try.func162.trans (congrArg some (by kernel_rfl))
  f301 := Try.func163.trans (congrArg some (by kernel_rfl))
  f328 := Try.func164.trans (congrArg some (by kernel_rfl))
  f329 := Try.func147.trans (congrArg some (by kernel_rfl))
  f330 := Try.func148.trans (congrArg some (by kernel_rfl))
  f331 := Try.func165.trans (congrArg some (by kernel_rfl))
  f332 := Try.func166.trans (congrArg some (by kernel_rfl))
  f343 := Try.func167.trans (congrArg some (by kernel_rfl))
  t0 := Try.underlying0
  a0 := Try.isAgg0
  z0 := Try.sizeOf0
  v0 := Try.zeroValue0
  t3 := Try.underlying3
  a3 := Try.isAgg3
  z3 := Try.sizeOf3
  v3 := Try.zeroValue3
  t4 := Try.underlying4
  a4 := Try.isAgg4
  z4 := Try.sizeOf4
  v4 := Try.zeroValue4
  t5 := Try.underlying5
  a5 := Try.isAgg5
  z5 := Try.sizeOf5
  v5 := Try.zeroValue5
  t9 := Try.underlying9
  a9 := Try.isAgg9
  z9 := Try.sizeOf9
  v9 := Try.zeroValue9
  t28 := Try.underlying27
  a28 := Try.isAgg27
  z28 := Try.sizeOf27
  v28 := Try.zeroValue27
  t46 := Try.underlying120
  a46 := Try.isAgg120
  z46 := Try.sizeOf120
  v46 := Try.zeroValue120
  t51 := Try.underlying142
  a51 := Try.isAgg142
  z51 := Try.sizeOf142
  v51 := Try.zeroValue142
  t53 := Try.underlying144
  a53 := Try.isAgg144
  z53 := Try.sizeOf144
  v53 := Try.zeroValue144
  t131 := Try.underlying46
  a131 := Try.isAgg46
  z131 := Try.sizeOf46
  v131 := Try.zeroValue46
  t182 := Try.underlying135
  a182 := Try.isAgg135
  z182 := Try.sizeOf135
  v182 := Try.zeroValue135
  t183 := Try.underlying136
  a183 := Try.isAgg136
  z183 := Try.sizeOf136
  v183 := Try.zeroValue136
  t218 := Try.underlying153
  a218 := Try.isAgg153
  z218 := Try.sizeOf153
  v218 := Try.zeroValue153
  t222 := Try.underlying157
  a222 := Try.isAgg157
  z222 := Try.sizeOf157
  v222 := Try.zeroValue157
  t228 := Try.underlying162
  a228 := Try.isAgg162
  z228 := Try.sizeOf162
  v228 := Try.zeroValue162
  t229 := Try.underlying163
  a229 := Try.isAgg163
  z229 := Try.sizeOf163
  v229 := Try.zeroValue163 }
end Go.Proofs
end
section
set_option maxRecDepth 100000
set_option linter.unusedSimpArgs false
set_option linter.unusedVariables false
namespace Go.Am
open Go.Proofs Go.Sort Go.Shelf
def cmpI (a b : Int) : Int := if a < b then -1 else if b < a then 1 else 0
def cmpM (x y : Int × Int) : Int := if cmpI x.1 y.1 ≠ 0 then cmpI x.1 y.1 else cmpI x.2 y.2
theorem eqNaN0 (a : Int) : callI G0 116 [.i a] [] = some (.b false, []) := by
  rw [callI_eq]
  simp [body1_eq _ _ (gp0 116) g116, c116, a116]
theorem eqCmp0 (a b : Int) : callI G0 103 [.i a, .i b] [] = some (.i (cmpI a b), []) := by
  have h1 := eqNaN0 a
  have h2 := eqNaN0 b
  rw [callI_eq]
  unfold cmpI
  by_cases c1 : a < b
  · simp [body1_eq _ _ (gp0 103) g103, c103, a103, h1, h2, c1]
  · by_cases c2 : b < a
    · simp [body1_eq _ _ (gp0 103) g103, c103, a103, h1, h2, c1, c2]
    · simp [body1_eq _ _ (gp0 103) g103, c103, a103, h1, h2, c1, c2]
theorem eqByMove0 (x y : Int × Int) : callI G0 89 [mvP x, mvP y] [] = some (.i (cmpM x y), []) := by
  have h1 := eqCmp0 x.1 y.1
  have h2 := eqCmp0 x.2 y.2
  rw [callI_eq]
  unfold cmpM
  by_cases c1 : cmpI x.1 y.1 = 0
  · simp [body1_eq _ _ (gp0 89) g89, c89, a89, mvP, h1, h2, c1]
  · simp [body1_eq _ _ (gp0 89) g89, c89, a89, mvP, h1, h2, c1]
/-- The order of moves. -/
def ltM (x y : Int × Int) : Bool := ltOf cmpM x y
theorem ltM_iff (x y : Int × Int) : ltM x y = true ↔ x.1 < y.1 ∨ x.1 = y.1 ∧ x.2 < y.2 := by
  unfold ltM ltOf cmpM cmpI
  simp only [decide_eq_true_eq]
  repeat' split
  all_goals (constructor <;> intro h <;> omega)
theorem ltM_false (x y : Int × Int) : ltM x y = false ↔ y.1 < x.1 ∨ y.1 = x.1 ∧ y.2 ≤ x.2 := by
  have := ltM_iff x y
  cases h : ltM x y with
  | true =>
    have := this.1 h
    constructor
    · intro e; cases e
    · intro e; omega
  | false =>
    rw [h] at this
    simp only [Bool.false_eq_true, false_iff] at this
    constructor
    · intro _; omega
    · intro _; rfl
theorem swoM : SWO (ltOf cmpM) where
  irrefl x := (ltM_false x x).2 (by omega)
  trans x y z h1 h2 := (ltM_iff x z).2 (by have := (ltM_iff x y).1 h1; have := (ltM_iff y z).1 h2; omega)
  ntrans x y z h1 h2 := (ltM_false x z).2 (by have := (ltM_false x y).1 h1; have := (ltM_false y z).1 h2; omega)
theorem totM (x y : Int × Int) (h1 : (ltOf cmpM) x y = false) (h2 : (ltOf cmpM) y x = false) : x = y := by
  have a := (ltM_false x y).1 h1
  have b := (ltM_false y x).1 h2
  exact Prod.ext (by omega) (by omega)
/-! slices.Clone at moves: an empty slice as it may be. -/
theorem eqClone0 (A : Option Addr) (cp : Nat) : callI G0 56 [.sc (.slice A 0 cp)] [] = some (if A.isNone = true then .nils else .sl true 2 [], []) := by
  rw [callI_eq]
  cases A with
  | none => simp [body1_eq _ _ (gp0 56) g56, c56, a56]
  | some a => simp [body1_eq _ _ (gp0 56) g56, c56, a56]
theorem eqClone1 (d : Int × Int) (ds : List (Int × Int)) (h : (d :: ds).length ≤ 4294967296) : callI G0 56 [.sl false 2 ((d :: ds).map mvP)] [] = some (.sl true 2 ((d :: ds).map mvP), []) := by
  rw [callI_eq]
  have h2 : ds.length + 1 ≤ 4294967296 := by simpa using h
  simp [body1_eq _ _ (gp0 56) g56, c56, a56, h2]
def prims : Nat → Option (List PV → Stack → Option (PV × Stack))
  | 96 => some (sortP 89 (ltOf cmpM))
  | 56 => some cloneMv
  | 137 => some sortI
  | _ => none
def G : Prog := ⟨codes, prims⟩
theorem gp (n : Nat) (h : prims n = none := by rfl) : G.prim n = none := h
theorem progOK : ProgOK Try.prog G := by
  refine ⟨progOK0.1, fun f af _ h => progOK0.code f af rfl h, fun f p h => ?_⟩
  simp only [G] at h
  unfold prims at h
  split at h
  all_goals first
    | (simp only [Option.some.injEq] at h; subst h; intro args o r o' e; exact sortP_good Try.sortMv Try.isAgg49 Try.sizeOf49 ⟨Try.f96, Try.func96, by kernel_rfl, by decide +kernel⟩ swoM totM (fun x y => sound progOK0 (eqByMove0 x y)) e)
    | (simp only [Option.some.injEq] at h; subst h; intro args o r o' e; exact cloneMv_good (fun A cp => sound progOK0 (eqClone0 A cp)) (fun d ds hl => sound progOK0 (eqClone1 d ds hl)) e)
    | (simp only [Option.some.injEq] at h; subst h; intro args o r o' e; exact sortI_good Try.sortI ⟨Try.f137, Try.func137, by kernel_rfl, by decide +kernel⟩ e)
    | (cases h; done)
/-- The sort's own equation. -/
theorem callI_prim {G : Prog} {f : Nat} {p : List PV → Stack → Option (PV × Stack)} (h : G.prim f = some p) (args : List PV) (o : Stack) : callI G f args o = p args o := by
  rw [callI_eq]
  simp only [body1, h]
theorem eqSortM (args : List PV) (o : Stack) : callI G 96 args o = sortP 89 ltM args o := callI_prim rfl args o
theorem eqCloneM (args : List PV) (o : Stack) : callI G 56 args o = cloneMv args o := callI_prim rfl args o
end Go.Am
end
section
set_option maxRecDepth 10000
set_option linter.unusedSimpArgs false
set_option linter.unusedVariables false
namespace Go.Am
open Go.Proofs
abbrev Mv := Int × Int
abbrev Gr := List (List Mv)
theorem wr {n : Int} (h : -9223372036854775808 ≤ n ∧ n ≤ 9223372036854775807) : IntKind.i64.wrap n = n := by
  simp only [IntKind.wrap, IntKind.bits, IntKind.signed]
  simp
  omega
/-! #### lists of moves as the machine holds them -/
def encL (nl u : Bool) (l : List Mv) : PV := if (nl && l.isEmpty) = true then .nils else .sl u 2 (l.map mvP)
def encGs (nl u : Bool) (g : Gr) : List PV := g.map (encL nl u)
def encM' (nl u : Bool) (g : Gr) : PV := if (nl && g.isEmpty) = true then .nils else .sl u 1 (encGs nl u g)
abbrev encG (nl u : Bool) (g : Gr) : PV := .agg [encM' nl u g]
@[simp] theorem encL_f (u : Bool) (l : List Mv) : encL false u l = .sl u 2 (l.map mvP) := rfl
@[simp] theorem encL_n (u : Bool) : encL true u [] = .nils := rfl
@[simp] theorem encL_c (nl u : Bool) (x : Mv) (l : List Mv) : encL nl u (x :: l) = .sl u 2 (mvP x :: l.map mvP) := by simp [encL]
theorem encL_ne {nl u : Bool} {l : List Mv} (h : l ≠ []) : encL nl u l = .sl u 2 (l.map mvP) := by
  cases l with
  | nil => exact absurd rfl h
  | cons x l => simp
@[simp] theorem encM_f (u : Bool) (g : Gr) : encM' false u g = .sl u 1 (encGs false u g) := rfl
@[simp] theorem encM_n (u : Bool) : encM' true u [] = .nils := rfl
@[simp] theorem encM_c (nl u : Bool) (x : List Mv) (g : Gr) : encM' nl u (x :: g) = .sl u 1 (encL nl u x :: encGs nl u g) := by simp [encM', encGs]
@[simp] theorem encGs_len (nl u : Bool) (g : Gr) : (encGs nl u g).length = g.length := by simp [encGs]
@[simp] theorem fal_mvP (x : Mv) : fal (mvP x) = mvP x := rfl
theorem fals_mvP : ∀ l : List Mv, fals (l.map mvP) = l.map mvP
  | [] => rfl
  | x :: l => by
    have := fals_mvP l
    simp [fals, this]
theorem fal_encL (nl u : Bool) (l : List Mv) : fal (encL nl u l) = encL nl false l := by
  unfold encL
  split
  · rfl
  · simp [fal, fals_mvP]
theorem fals_encGs (nl u : Bool) : ∀ g : Gr, fals (encGs nl u g) = encGs nl false g
  | [] => rfl
  | l :: g => by
    have := fals_encGs nl u g
    simp only [encGs, List.map_cons, fals, fal_encL] at this ⊢
    rw [this]
theorem fal_encM (nl u : Bool) (g : Gr) : fal (encM' nl u g) = encM' nl false g := by
  unfold encM'
  split
  · rfl
  · simp [fal, fals_encGs]
theorem mv_at (a : List Mv) (x : Mv) (b : List Mv) : nth ((a ++ x :: b).map mvP) a.length = some (mvP x) := by
  unfold nth; simp
theorem gr_at (nl u : Bool) (a : Gr) (x : List Mv) (b : Gr) : nth (encGs nl u (a ++ x :: b)) a.length = some (encL nl u x) := by
  unfold nth encGs; simp
theorem encL_cells (nl u : Bool) (l : List Mv) : (encL nl u l).cells = [encL nl u l] := by unfold encL; split <;> rfl
@[simp] theorem known_encL (f : Nat → Bool) (n : Nat) (nl u : Bool) (l : List Mv) : known f n (encL nl u l) = true := by unfold encL; split <;> rfl
@[simp] theorem cellP_encL (nl u : Bool) (l : List Mv) : cellP (encL nl u l) = true := by unfold encL; split <;> rfl
@[simp] theorem cells_encL (nl u : Bool) (l : List Mv) : (encL nl u l).cells = [encL nl u l] := encL_cells nl u l
@[simp] theorem noRef_encL (nl u : Bool) (l : List Mv) : noRef (encL nl u l) = true := by unfold encL; split <;> rfl
@[simp] theorem plain_encL (nl : Bool) (l : List Mv) : plain (encL nl false l) = true := by unfold encL; split <;> rfl
@[simp] theorem snapE_encL (g : Id → Option OB) (nl u : Bool) (l : List Mv) : snapE g (encL nl u l) = some (encL nl u l) := by unfold encL; split <;> rfl
@[simp] theorem rowIdE_encL (g : Id → Option OB) (nl u : Bool) (l : List Mv) : rowIdE g (encL nl u l) = [] := by unfold encL; split <;> rfl
@[simp] theorem snap_encL (g : Id → Option OB) (nl u : Bool) (l : List Mv) : snap g (encL nl u l) = some (encL nl u l) := by unfold encL; split <;> rfl
@[simp] theorem rowId_encL (g : Id → Option OB) (nl u : Bool) (l : List Mv) : rowId g (encL nl u l) = [] := by unfold encL; split <;> rfl
@[simp] theorem len_encL (n d : Nat) (g : Id → Option OB) (nl u : Bool) (l : List Mv) : core1 n d g .len [encL nl u l] = some (.i l.length, []) := by
  unfold encL
  split
  · rename_i hh
    have : l = [] := by simp at hh; exact hh.2
    subst this
    simp
  · simp
@[simp] theorem known_encM (f : Nat → Bool) (n : Nat) (nl u : Bool) (l : Gr) : known f n (encM' nl u l) = true := by unfold encM'; split <;> rfl
@[simp] theorem cellP_encM (nl u : Bool) (l : Gr) : cellP (encM' nl u l) = true := by unfold encM'; split <;> rfl
@[simp] theorem noRef_encM (nl u : Bool) (l : Gr) : noRef (encM' nl u l) = true := by unfold encM'; split <;> rfl
@[simp] theorem plain_encM (nl : Bool) (l : Gr) : plain (encM' nl false l) = true := by unfold encM'; split <;> rfl
@[simp] theorem snap_encM (g : Id → Option OB) (nl u : Bool) (l : Gr) : snap g (encM' nl u l) = some (encM' nl u l) := by unfold encM'; split <;> rfl
@[simp] theorem rowId_encM (g : Id → Option OB) (nl u : Bool) (l : Gr) : rowId g (encM' nl u l) = [] := by unfold encM'; split <;> rfl
@[simp] theorem snapE_encM (g : Id → Option OB) (nl u : Bool) (l : Gr) : snapE g (encM' nl u l) = some (encM' nl u l) := by unfold encM'; split <;> rfl
@[simp] theorem rowIdE_encM (g : Id → Option OB) (nl u : Bool) (l : Gr) : rowIdE g (encM' nl u l) = [] := by unfold encM'; split <;> rfl
@[simp] theorem len_encM (n d : Nat) (g : Id → Option OB) (nl u : Bool) (l : Gr) : core1 n d g .len [encM' nl u l] = some (.i l.length, []) := by
  unfold encM'
  split
  · rename_i hh
    have : l = [] := by simp at hh; exact hh.2
    subst this
    simp
  · simp
theorem encM_cases (nl u : Bool) (g : Gr) : encM' nl u g = .nils ∨ ∃ xs, encM' nl u g = .sl u 1 xs := by
  unfold encM'
  split
  · exact .inl rfl
  · exact .inr ⟨_, rfl⟩
/-! #### the size -/
/-- Lists of no more elements than memory holds. -/
def FitG (g : Gr) : Prop := g.length ≤ 9223372036854775807 ∧ ∀ l ∈ g, l.length ≤ 9223372036854775807
/-- Graphs that can be made. -/
def SmallG (g : Gr) : Prop := g.length ≤ 1048576 ∧ ∀ l ∈ g, l.length ≤ 1048576
/-! #### copies -/
end Go.Am
end
section
/- A function of a machine, as a primitive of another one that hands it what its arguments may also be read as. -/
set_option linter.unusedSimpArgs false
set_option linter.unusedVariables false
namespace Go.Am
open Go.RowKit
/-- What a value may also be read as. -/
def Reads (t : PV → PV) : Prop := ∀ {c : Ctx} {S : Sto} {h : Hp} {x : PV} {v : Value}, RVal c S h x v → RVal c S h (t x) v
theorem Reads.all {t : PV → PV} (ht : Reads t) {c : Ctx} {S : Sto} {h : Hp} : ∀ {xs : List PV} {vs : List Value}, RVals c S h xs vs → RVals c S h (xs.map t) vs
  | [], vs, r => r
  | x :: xs, vs, r => by
    obtain ⟨v, ws, e, h1, h2⟩ := r
    exact ⟨v, ws, e, ht h1, ht.all h2⟩
/-- An aggregate of one nil slice. -/
def nil1 (k : Nat) : PV → PV
  | .agg [.nils] => .agg [.sl false k []]
  | x => x
theorem reads_nil1 (k : Nat) : Reads (nil1 k) := by
  intro c S h x v r
  unfold nil1
  split
  · have := RVal_weak k r
    simpa [weak, weaks] using this
  · exact r
noncomputable def viaP (G : Prog) (f : Nat) (t : PV → PV) (args : List PV) (o : Stack) : Option (PV × Stack) := callI G f (args.map t) o
theorem viaP_good {P : Program} {G : Prog} (ok : ProgOK P G) {f : Nat} {t : PV → PV} (ht : Reads t) {args : List PV} {o o' : Stack} {r : PV} (e : viaP G f t args o = some (r, o')) : Good P f args o r o' := by
  have hg := sound ok e
  exact ⟨hg.1, fun c fp w vals st hr => hg.2 c fp w vals st (ht.all hr)⟩
/-- What a call gives back is handed on as a row that stays as it is. -/
theorem Did.low {c : Ctx} {S S' : Sto} {w w' : World} {k : Nat} {xs : List PV} {e : Ending} (d : Did c S w S' (.sl true k xs) e w') : Did c S w S' (.sl false k (fals xs)) e w' := by
  obtain ⟨v, c', fp', f', e1, hw, ok, ha, hf, r⟩ := d
  have r : R c' S' (hp w') (.sl true k xs) [v] f' := r
  have ht : tree (.sl true k xs) = true := by simp only [R] at r; simp only [tree]; exact r.1
  have hF : ∀ b o, c'.F b = some o → (addF c' f' (hp w')).F b = some o := by
    intro b o h
    simp only [addF]
    split
    · rename_i hb
      exact (hf.2 b hb).1.no (.inl h)
    · exact h
  have ha2 : Adv c' (addF c' f' (hp w')) S' S' := ⟨hF, rfl, fun x o hx => ⟨o, hx, StepOB.rfl' rfl⟩⟩
  refine ⟨v, addF c' f' (hp w'), fp', [], e1, hw, ok.step ha2 (fun _ => False) ?_ (fun _ _ _ h => h.elim) ?_ ?_, ha.trans ha2, Free.nil, ?_⟩
  · intro id ob hs _
    refine ⟨hs, rfl, rfl, fun b hb => ⟨rfl, ?_, (ok.nF id ob hs b hb).2⟩⟩
    simp only [addF]
    rw [if_neg (fun hb' => (hf.2 b hb').2 id ob hs hb)]
    exact (ok.nF id ob hs b hb).1
  · intro b o h
    simp only [addF] at h
    split at h
    · rcases h with h | h
      · exact h
      · exact ok.okF b o (.inr h)
    · exact ok.okF b o h
  · intro b o h
    simp only [addF] at h ⊢
    split at h
    · rename_i hb
      exact (hf.2 b hb).1.2
    · exact ok.dis b o h
  · have := R.fal (c' := addF c' f' (hp w')) (S' := S') (h' := hp w') hF (.sl true k xs) [v] f' ht (fun b hb => by simp [addF, hb]) r
    exact this
def lowR : Option (PV × Stack) → Option (PV × Stack)
  | some (.sl true k xs, o) => some (.sl false k (fals xs), o)
  | r => r
/-- The same, with a row as result that stays as it is. -/
noncomputable def lowP (G : Prog) (f : Nat) (t : PV → PV) (args : List PV) (o : Stack) : Option (PV × Stack) := lowR (viaP G f t args o)
theorem lowP_good {P : Program} {G : Prog} (ok : ProgOK P G) {f : Nat} {t : PV → PV} (ht : Reads t) {args : List PV} {o o' : Stack} {r : PV} (e : lowP G f t args o = some (r, o')) : Good P f args o r o' := by
  unfold lowP lowR at e
  split at e
  · rename_i k xs o1 he
    simp only [Option.some.injEq, Prod.mk.injEq] at e
    obtain ⟨rfl, rfl⟩ := e
    have hg := viaP_good ok ht he
    refine ⟨hg.1, fun c fp w vals st hr => (hg.2 c fp w vals st hr).mono fun e w' h => ⟨h.1, h.2.low⟩⟩
  · exact viaP_good ok ht e
theorem callI_prim' {G : Prog} {f : Nat} {p : List PV → Stack → Option (PV × Stack)} (h : G.prim f = some p) (args : List PV) (o : Stack) : callI G f args o = p args o := by
  rw [callI_eq]
  simp only [body1, h]
end Go.Am
end
section
/- Results that are handed on as trees that stay as they are. -/
set_option linter.unusedSimpArgs false
set_option linter.unusedVariables false
namespace Go.Am
open Go.RowKit
theorem RX.fal {c c' : Ctx} {S S' : Sto} {h h' : Hp} (hF : ∀ b o, c.F b = some o → c'.F b = some o) {x : PV} {v : Value} {f : List Nat} (t : tree x = true) (hf : ∀ b ∈ f, c'.F b = h b) (r : RX c S h x v f) : RX c' S' h' (Am.fal x) v [] := by
  cases x with
  | bx cs => simp [tree] at t
  | undef => exact r.elim
  | agg cs =>
    obtain ⟨vs, e, r⟩ := r
    exact ⟨vs, e, R.fal hF (.agg cs) vs f t hf r⟩
  | sc u => exact R.fal (S := S) (S' := S') (h' := h') hF (.sc u) [v] f t hf r
  | nils => exact R.fal (S := S) (S' := S') (h' := h') hF .nils [v] f t hf r
  | sl u k xs => exact R.fal (S := S) (S' := S') (h' := h') hF (.sl u k xs) [v] f t hf r
  | own _ _ => simp [tree] at t
  | ref _ _ _ _ => simp [tree] at t
  | sub _ _ _ => simp [tree] at t
  | iref _ _ => simp [tree] at t
  | mp _ => simp [tree] at t
  | clo _ _ => simp [tree] at t
  | tup _ => simp [tree] at t
  | non => simp [tree] at t
theorem RXs.fals {c c' : Ctx} {S S' : Sto} {h h' : Hp} (hF : ∀ b o, c.F b = some o → c'.F b = some o) : ∀ {xs : List PV} {vs : List Value} {f : List Nat}, trees xs = true → (∀ b ∈ f, c'.F b = h b) → RXs c S h xs vs f → RXs c' S' h' (Am.fals xs) vs []
  | [], _, _, _, _, r => ⟨r.1, rfl⟩
  | x :: xs, vs, f, t, hf, ⟨v, ws, f1, f2, e1, e2, r1, r2⟩ => by
    simp only [trees, Bool.and_eq_true] at t
    refine ⟨v, ws, [], [], e1, rfl, RX.fal hF t.1 (fun b hb => hf b (by rw [e2]; exact List.mem_append_left _ hb)) r1, RXs.fals hF t.2 (fun b hb => hf b (by rw [e2]; exact List.mem_append_right _ hb)) r2⟩
/-- A result that may be read otherwise once what it leads to stays as it is. -/
theorem Did.lowG {c : Ctx} {S S' : Sto} {w w' : World} {x y : PV} {e : Ending} (hxy : ∀ (c1 c2 : Ctx) (S1 S2 : Sto) (h1 h2 : Hp) (v : Value) (f : List Nat), (∀ b o, c1.F b = some o → c2.F b = some o) → (∀ b ∈ f, c2.F b = h1 b) → Ret c1 S1 h1 x v f → Ret c2 S2 h2 y v [])
    (d : Did c S w S' x e w') : Did c S w S' y e w' := by
  obtain ⟨v, c', fp', f', e1, hw, ok, ha, hf, r⟩ := d
  have hF : ∀ b o, c'.F b = some o → (addF c' f' (hp w')).F b = some o := by
    intro b o h
    simp only [addF]
    split
    · rename_i hb
      exact (hf.2 b hb).1.no (.inl h)
    · exact h
  have ha2 : Adv c' (addF c' f' (hp w')) S' S' := ⟨hF, rfl, fun x o hx => ⟨o, hx, StepOB.rfl' rfl⟩⟩
  refine ⟨v, addF c' f' (hp w'), fp', [], e1, hw, ok.step ha2 (fun _ => False) ?_ (fun _ _ _ h => h.elim) ?_ ?_, ha.trans ha2, Free.nil, hxy c' _ S' S' (hp w') _ v f' hF (fun b hb => by simp [addF, hb]) r⟩
  · intro id ob hs _
    refine ⟨hs, rfl, rfl, fun b hb => ⟨rfl, ?_, (ok.nF id ob hs b hb).2⟩⟩
    simp only [addF]
    rw [if_neg (fun hb' => (hf.2 b hb').2 id ob hs hb)]
    exact (ok.nF id ob hs b hb).1
  · intro b o h
    simp only [addF] at h
    split at h
    · rcases h with h | h
      · exact h
      · exact ok.okF b o (.inr h)
    · exact ok.okF b o h
  · intro b o h
    simp only [addF] at h ⊢
    split at h
    · rename_i hb
      exact (hf.2 b hb).1.2
    · exact ok.dis b o h
def lowTR : Option (PV × Stack) → Option (PV × Stack)
  | some (.tup ps, o) => if trees ps = true then some (.tup (fals ps), o) else some (.tup ps, o)
  | r => r
/-- A function of a machine as a primitive of another one; the values of its result are trees that stay as they are. -/
noncomputable def lowTP (G : Prog) (f : Nat) (t : PV → PV) (args : List PV) (o : Stack) : Option (PV × Stack) := lowTR (viaP G f t args o)
theorem lowTP_good {P : Program} {G : Prog} (ok : ProgOK P G) {f : Nat} {t : PV → PV} (ht : Reads t) {args : List PV} {o o' : Stack} {r : PV} (e : lowTP G f t args o = some (r, o')) : Good P f args o r o' := by
  unfold lowTP lowTR at e
  split at e
  · rename_i ps o1 he
    split at e
    · rename_i htr
      simp only [Option.some.injEq, Prod.mk.injEq] at e
      obtain ⟨rfl, rfl⟩ := e
      have hg := viaP_good ok ht he
      refine ⟨hg.1, fun c fp w vals st hr => (hg.2 c fp w vals st hr).mono fun e w' h => ⟨h.1, h.2.lowG ?_⟩⟩
      intro c1 c2 S1 S2 h1 h2 v f hF hf r
      obtain ⟨vs, e1, r⟩ := r
      exact ⟨vs, e1, RXs.fals hF htr hf r⟩
    · simp only [Option.some.injEq, Prod.mk.injEq] at e
      obtain ⟨rfl, rfl⟩ := e
      exact viaP_good ok ht he
  · exact viaP_good ok ht e
end Go.Am
end
section
set_option maxRecDepth 100000
set_option linter.unusedSimpArgs false
set_option linter.unusedVariables false
namespace Go.Am
open Go.Proofs Go.Sort Go.Shelf
/-- A graph whose rows or whose row of rows may be nil, read as one of empty rows. -/
def wkG (x : PV) : PV := weak 2 (nil1 1 x)
theorem reads_wkG : Reads wkG := fun r => RVal_weak 2 (reads_nil1 1 r)
theorem weak_mvP (x : Mv) : weak 2 (mvP x) = mvP x := rfl
theorem weaks_mvP : ∀ l : List Mv, weaks 2 (l.map mvP) = l.map mvP
  | [] => rfl
  | x :: l => by simp [weaks, weak_mvP, weaks_mvP l]
theorem weak_encL (nl : Bool) (l : List Mv) : weak 2 (encL nl false l) = encL false false l := by
  unfold encL
  split
  · rename_i h
    simp only [Bool.and_eq_true, List.isEmpty_iff] at h
    rw [h.2]; rfl
  · simp [weak, weaks_mvP]
theorem weaks_encGs (nl : Bool) : ∀ g : Gr, weaks 2 (encGs nl false g) = encGs false false g
  | [] => rfl
  | l :: g => by
    have := weaks_encGs nl g
    simp only [encGs, List.map_cons, weaks, weak_encL] at this ⊢
    rw [this]
theorem wkG_enc (nl : Bool) (g : Gr) : wkG (encG nl false g) = encG false false g := by
  unfold wkG encG encM'
  split
  · rename_i h
    simp only [Bool.and_eq_true, List.isEmpty_iff] at h
    rw [h.2]; rfl
  · have : nil1 1 (.agg [.sl false 1 (encGs nl false g)]) = .agg [.sl false 1 (encGs nl false g)] := rfl
    rw [this]
    simp [weak, weaks, weaks_encGs]
theorem reads_id : Reads id := fun r => r
noncomputable def primsH : Nat → Option (List PV → Stack → Option (PV × Stack))
  | 96 => some (sortP 89 (ltOf cmpM))
  | 56 => some cloneMv
  | 137 => some sortI
  | 22 => some (lowTP G 22 wkG)
  | 23 => some (viaP G 23 wkG)
  | 26 => some (lowTP G 26 wkG)
  | 27 => some (viaP G 27 wkG)
  | 34 => some (lowTP G 34 wkG)
  | 35 => some (viaP G 35 wkG)
  | 28 => some (viaP G 28 wkG)
  | 68 => some (viaP G 68 wkG)
  | 94 => some (viaP G 94 id)
  | 19 => some (viaP G 19 wkG)
  | 44 => some (viaP G 44 wkG)
  | 114 => some (lowP G 114 wkG)
  | 115 => some (lowP G 115 wkG)
  | _ => none
noncomputable def H : Prog := ⟨codes, primsH⟩
theorem gpH (n : Nat) (h : primsH n = none := by rfl) : H.prim n = none := h
theorem progOKH : ProgOK Try.prog H := by
  refine ⟨progOK.1, fun f af _ h => progOK0.code f af rfl h, fun f p h => ?_⟩
  simp only [H] at h
  unfold primsH at h
  split at h
  all_goals first
    | exact progOK.prim _ _ h
    | (simp only [Option.some.injEq] at h; subst h; intro args o r o' e; first | exact viaP_good progOK reads_wkG e | exact lowTP_good progOK reads_wkG e | exact viaP_good progOK reads_id e | exact lowP_good progOK reads_wkG e)
    | (cases h; done)
end Go.Am
end
section
set_option maxRecDepth 100000
set_option linter.unusedSimpArgs false
set_option linter.unusedVariables false
namespace Go.Am
open Go.Proofs Go.Sort Go.Shelf
/-! the machine of the laws: what is drawn stays as it is -/
noncomputable def primsL : Nat → Option (List PV → Stack → Option (PV × Stack))
  | 21 => some (lowTP H 21 id)
  | 25 => some (lowTP H 25 id)
  | 33 => some (lowTP H 33 id)
  | 23 => some (lowTP G 23 wkG)
  | 27 => some (lowTP G 27 wkG)
  | 35 => some (lowTP G 35 wkG)
  | 28 => some (lowTP G 28 wkG)
  | 32 => some (viaP H 32 id)
  | n => primsH n
noncomputable def L : Prog := ⟨codes, primsL⟩
theorem gpL (n : Nat) (h : primsL n = none := by rfl) : L.prim n = none := h
theorem progOKL : ProgOK Try.prog L := by
  refine ⟨progOK.1, fun f af _ h => progOK0.code f af rfl h, fun f p h => ?_⟩
  simp only [L] at h
  unfold primsL at h
  split at h
  all_goals first
    | exact progOKH.prim _ _ h
    | (simp only [Option.some.injEq] at h; subst h; intro args o r o' e; first | exact lowTP_good progOKH reads_id e | exact lowTP_good progOK reads_wkG e | exact viaP_good progOKH reads_id e)
    | (cases h; done)
end Go.Am
end
section
set_option maxRecDepth 10000
set_option linter.unusedSimpArgs false
set_option linter.unusedVariables false
namespace Go.Am
open Go.Proofs
/-! #### comparing -/
end Go.Am
end
section
set_option maxRecDepth 10000
set_option linter.unusedSimpArgs false
set_option linter.unusedVariables false
namespace Go.Am
open Go.Proofs
/-! #### marked graphs: every field bears the next number -/
def mkL : Int → List Mv → List Mv
  | _, [] => []
  | k, _ :: l => (k, k + 1) :: mkL (k + 2) l
def mkG : Int → Gr → Gr
  | _, [] => []
  | k, l :: g => mkL k l :: mkG (k + 2 * l.length) g
@[simp] theorem mkL_len : ∀ (k : Int) (l : List Mv), (mkL k l).length = l.length
  | _, [] => rfl
  | k, _ :: l => by simp [mkL, mkL_len _ l]
@[simp] theorem mkG_len : ∀ (k : Int) (g : Gr), (mkG k g).length = g.length
  | _, [] => rfl
  | k, _ :: l => by simp [mkG, mkG_len _ l]
theorem at_D (D : List PV) (x : PV) (E : List PV) (n : Nat) (h : n = D.length) : nth (D ++ x :: E) n = some x := by
  subst h
  unfold nth
  rw [List.getElem?_append_right (Nat.le_refl _)]
  simp
theorem set_D (D : List PV) (x y : PV) (E : List PV) (n : Nat) (h : n = D.length) : (D ++ x :: E).set n y = D ++ y :: E := by
  subst h
  rw [List.set_append_right _ _ (Nat.le_refl _)]
  simp
/-! #### held -/
end Go.Am
end
