/- What the functions that the law reaches compute. -/
import Derived.Test.YtlldnglfoajfcaaAnC
import Derived.Shelf.Sort.Plain
import Derived.Shelf.Slices.In.SortNone
import Derived.Ground.NamesProg
import Derived.Shelf.Lays
import Derived.Test.YtlldnglfoajfcaaProg
import Derived.Test.YtlldnglfoajfcaaCoA
import Derived.IntWalk
section
/- slices.Sort at numbers, by the library's contract. -/
set_option linter.unusedSimpArgs false
set_option linter.unusedVariables false
namespace Go.Am
open Go.RowKit Go.Shelf Go.Lib Go.Sort Go.Proofs
def unN : PV → Option Int
  | .sc (.int .i64 a) => some a
  | _ => none
def unNs : List PV → Option (List Int)
  | [] => some []
  | x :: xs => match unN x, unNs xs with | some a, some r => some (a :: r) | _, _ => none
theorem unN_eq {x : PV} {a : Int} (h : unN x = some a) : x = .i a := by
  unfold unN at h
  split at h
  · simp only [Option.some.injEq] at h; subst h; rfl
  · cases h
theorem unNs_eq : ∀ {xs : List PV} {ds : List Int}, unNs xs = some ds → xs = ds.map PV.i
  | [], _, h => by simp only [unNs, Option.some.injEq] at h; subst h; rfl
  | x :: xs, _, h => by
    simp only [unNs] at h
    split at h
    · rename_i a r h1 h2
      simp only [Option.some.injEq] at h
      subst h
      rw [List.map_cons, ← unN_eq h1, ← unNs_eq h2]
    · cases h
@[simp] theorem unN_i (a : Int) : unN (.i a) = some a := rfl
@[simp] theorem unNs_map : ∀ ds : List Int, unNs (ds.map PV.i) = some ds
  | [] => rfl
  | a :: ds => by simp [unNs, unNs_map ds]
/-- Numbers in order. -/
def sortL (ds : List Int) : List Int := ds.mergeSort fun x y => decide (x ≤ y)
/-- What a sort of numbers does. -/
def sortI : List PV → Stack → Option (PV × Stack)
  | [.nils], o => some (.tup [], o)
  | [.own id n], o => if n < 4611686018427387904 then match getS o id with
      | some (.row k xs) => if k = 1 ∧ n = xs.length then match unNs xs with
          | some ds => some (.tup [], setS o id (.row 1 ((sortL ds).map PV.i)))
          | none => none
        else none
      | _ => none
    else none
  | _, _ => none
theorem Rs_i {c : Ctx} {S : Sto} {h : Hp} : ∀ {ds : List Int} {vs : List Value} {f : List Nat}, Rs c S h (ds.map PV.i) vs f ↔ vs = ds.map (Value.int .i64) ∧ f = []
  | [], vs, f => Iff.rfl
  | a :: ds, vs, f => by
    constructor
    · rintro ⟨v1, v2, f1, f2, rfl, rfl, r1, r2⟩
      obtain ⟨rfl, rfl⟩ := Rs_i.1 r2
      obtain ⟨rfl, rfl, _⟩ := r1
      exact ⟨rfl, rfl⟩
    · rintro ⟨rfl, rfl⟩
      exact ⟨[.int .i64 a], ds.map (Value.int .i64), [], [], rfl, rfl, ⟨rfl, rfl, rfl⟩, Rs_i.2 ⟨rfl, rfl⟩⟩
section
variable {P : Program}
theorem sortI_good {ρ : Ren} (L : Lays.n189 P ρ) (hgo : isGo P (ρ.f 189)) {args : List PV} {o o' : Stack} {r : PV} (e : sortI args o = some (r, o')) : Good P (ρ.f 189) args o r o' := by
  refine ⟨hgo, fun c fp w vals ok hr => ?_⟩
  unfold sortI at e
  split at e
  · -- nil
    simp only [Option.some.injEq, Prod.mk.injEq] at e
    obtain ⟨rfl, rfl⟩ := e
    obtain ⟨v, _, rfl, ⟨_, A, hv⟩, rfl⟩ := hr
    have hv : v = .slice A 0 0 := by simpa using hv
    subst hv
    refine (Any.slices_Sort_int_none L A 0 w).mono fun e w' hend => ?_
    obtain ⟨rfl, rfl⟩ := hend
    exact ⟨⟨rfl, fun id ob h => ⟨ob, h⟩⟩, _, c, fp, [], rfl, Grew.refl _, ok, Adv.refl _ _, Free.nil, [], rfl, rfl, rfl⟩
  · -- a row
    rename_i id n
    split at e
    · rename_i hn
      split at e
      · rename_i k xs hs
        split at e
        · rename_i hk
          obtain ⟨rfl, rfl⟩ := hk
          split at e
          · rename_i ds hds
            simp only [Option.some.injEq, Prod.mk.injEq] at e
            obtain ⟨rfl, rfl⟩ := e
            obtain rfl := unNs_eq hds
            rw [← gt_getS] at hs
            have hid : id.1 < o.length := gt_lv o id _ hs
            obtain ⟨v, _, rfl, hv, rfl⟩ := hr
            obtain ⟨_, v', ev, _, hv⟩ := (show R c (gt o) (hp w) (.own id (ds.map PV.i).length) [v] [] from hv)
            have : v = v' := by simpa using ev
            subst this
            simp only [OwnOK, hs] at hv
            have hv := hv.2 trivial
            subst hv
            simp only [List.length_map] at hn ⊢
            obtain ⟨htr, hkr, ro⟩ := ok.ob id _ hs
            generalize hsd : sortL ds = ds'
            have hsl : ds'.length = ds.length := by rw [← hsd]; exact List.length_mergeSort _
            rcases ro with ⟨hx, hcap, hfp⟩ | ⟨fq, hb, ⟨cur, et, wsr, g1, g2, g3, g4, g5, g6⟩, hfp⟩
            · have hd0 : ds = [] := by simpa using hx
              subst hd0
              have : ds' = [] := List.length_eq_zero_iff.1 hsl
              subst this
              have hsame : setS o id (.row 1 ([].map PV.i)) = o := setS_same o id _ (by rw [← gt_getS]; exact hs)
              rw [hsame]
              refine (Any.slices_Sort_int_none L _ _ w).mono fun e w' hend => ?_
              obtain ⟨rfl, rfl⟩ := hend
              exact ⟨⟨rfl, fun id ob h => ⟨ob, h⟩⟩, _, c, fp, [], rfl, Grew.refl _, ok, Adv.refl _ _, Free.nil, [], rfl, rfl, rfl⟩
            · obtain ⟨rfl, rfl⟩ := Rs_i.1 g5
              simp only [List.length_map, Nat.mul_one] at g2 g6
              have hlt := hp_lt g1
              have hcurat : ∀ j, j < ds.length → cur[j]? = some (Value.int .i64 ds.toArray[j]!) := fun j hj => by
                have := congrArg (fun l => l[j]?) g6
                simp only [List.getElem?_take, if_pos hj, List.getElem?_map] at this
                rw [← Array.getElem?_toList, this]
                simp [hj]
              have hH : Holds (Value.int .i64) w (c.L id).blk 0 ds.toArray := by
                intro j hj
                simp only [List.size_toArray] at hj
                refine ⟨?_, ?_⟩
                · rw [Nat.zero_add, cell_of_block g1, hcurat j hj]
                · have : w.heap[(c.L id).blk]? = some (.cells cur et (0, 0)) := g1
                  simp [World.frozen?, this]
              have hcon := Any.slices_Sort_int L (c.L id).blk 0 (c.L id).cap ds w hH hlt (by simpa using hn)
              rw [hb]
              have hargs : ([Value.slice (some ⟨(c.L id).blk, 0, none⟩) ds.length (c.L id).cap] : List Value).toArray = #[Value.slice (some ⟨(c.L id).blk, 0, none⟩) ds.length (c.L id).cap] := rfl
              rw [hargs]
              refine hcon.mono fun e w' hend => ?_
              obtain ⟨rfl, m, os, rfl⟩ := hend
              have hsd' : (ds.mergeSort fun x y => decide (x ≤ y)) = ds' := hsd
              simp only [hsd']
              -- the new world
              have hheap : ∀ b, b < w.heap.size → hp (grow (putRow (Value.int .i64) (Sort.ahead w m) (c.L id).blk 0 ds'.toArray) os) b = if (c.L id).blk = b then (hp w b).map (onCells (Go.Sort.putCells (Value.int .i64) 0 ds'.toArray)) else hp w b := by
                intro b hb'
                simp only [putRow, mapBlock, grow, hp, Sort.ahead]
                rw [Array.getElem?_append_left (by simpa using hb'), Array.getElem?_modify]
              have hother : ∀ b, b < w.heap.size → b ≠ (c.L id).blk → hp (grow (putRow (Value.int .i64) (Sort.ahead w m) (c.L id).blk 0 ds'.toArray) os) b = hp w b := fun b hb' hne => by rw [hheap b hb', if_neg (Ne.symm hne)]
              have hblk := hheap _ hlt
              rw [if_pos rfl, g1] at hblk
              simp only [Option.map_some, onCells] at hblk
              generalize hcur' : Go.Sort.putCells (Value.int .i64) 0 ds'.toArray cur = cur' at hblk
              have hsz' : cur'.size = cur.size := by rw [← hcur']; simp [Go.Sort.putCells]
              have htake : cur'.toList.take ds'.length = ds'.map (Value.int .i64) := by
                apply List.ext_getElem?
                intro j
                rw [List.getElem?_take]
                by_cases hj : j < ds'.length
                · rw [if_pos hj, ← hcur']
                  have hjc : j < cur.size := by omega
                  simp only [Go.Sort.putCells, Array.getElem?_toList, Array.getElem?_mapIdx, Array.getElem?_eq_getElem hjc, Option.map_some, Nat.zero_le, true_and, Nat.zero_add, List.size_toArray, hj, if_true, Nat.sub_zero]
                  simp [hj]
                · rw [if_neg hj, List.getElem?_eq_none (by simp; omega)]
              have hfz : ∀ a : Addr, a.block < w.heap.size → (grow (putRow (Value.int .i64) (Sort.ahead w m) (c.L id).blk 0 ds'.toArray) os).frozen? a = w.frozen? a := by
                intro a ha
                have h1 := hheap a.block ha
                simp only [hp] at h1
                by_cases hab : (c.L id).blk = a.block
                · have h2 : w.heap[a.block]? = some (.cells cur et (0, 0)) := by rw [← hab]; exact g1
                  rw [if_pos hab, h2] at h1
                  simp only [Option.map_some, onCells] at h1
                  simp only [World.frozen?, h1, h2]
                · rw [if_neg hab] at h1
                  simp only [World.frozen?, h1]
              have ha : Adv c (setL c id (c.L id)) (gt o) (upd (gt o) id (.row 1 (ds'.map PV.i))) := Adv.row hs (by simp [hsl]) (fun _ => rfl)
              have hfq : (c.L id).blk ∈ fp id := by rw [hfp]; exact List.mem_cons_self
              have hst : StOK (setL c id (c.L id)) (upd (gt o) id (.row 1 (ds'.map PV.i))) (hp (grow (putRow (Value.int .i64) (Sort.ahead w m) (c.L id).blk 0 ds'.toArray) os)) (setF fp id [(c.L id).blk]) := by
                refine ok.reset hs ha ?_ (by simp) (fun b hb' => ?_) (fun b hb' hb2 => hother b hb' (fun e => hb2 (by rw [e]; exact hfq)))
                · refine ⟨?_, ?_, .inr ⟨[], by simpa [setL] using hb, ⟨cur', et, ds'.map (Value.int .i64), by simpa [setL] using hblk, by simp only [setL, if_true, List.length_map]; omega, by simpa [setL] using g3, by simp only [setL, if_true, hsz', g4], Rs_i.2 ⟨rfl, rfl⟩, by rw [List.length_map, Nat.mul_one]; exact htake⟩, by simp [setL]⟩⟩
                  · clear hsd hsd' hblk hcur' hsz' htake hfz hheap hother ha
                    have : ∀ l : List Int, trees (l.map PV.i) = true := fun l => by
                      induction l with
                      | nil => rfl
                      | cons b l ih => simp [trees, tree, ih]
                    exact this _
                  · intro x hx
                    obtain ⟨a, _, rfl⟩ := List.mem_map.1 hx
                    exact ⟨rfl, rfl⟩
                · simp only [List.mem_singleton] at hb'
                  subst hb'
                  exact ⟨ok.nF id _ hs _ hfq, fun id' ob' hne' hs' => ok.dj id id' _ ob' hs hs' (Ne.symm hne') _ hfq⟩
              refine ⟨shape_setS hs, .tuple #[], setL c id (c.L id), setF fp id [(c.L id).blk], [], rfl, ⟨rfl, rfl, rfl, ?_, hfz, ?_⟩, ?_, ?_, Free.nil, [], rfl, rfl, rfl⟩
              · simp [grow, putRow, mapBlock, Sort.ahead]
              · simp [grow, putRow, mapBlock, Sort.ahead]
              · rw [gt_setS hid]; exact hst
              · rw [gt_setS hid]; exact ha
          · cases e
        · cases e
      · cases e
    · cases e
  · cases e
end
end Go.Am
end
section
/- The library's sort at this program, as the kit's tool lays it. -/
namespace Go.Proofs
open Go.Shelf
def Try.sortI_ren : Go.Shelf.Ren := ⟨fun | 189 => 148 | 125 => 163 | 257 => 168 | 128 => 184 | 129 => 185 | 294 => 190 | 295 => 191 | 296 => 192 | 297 => 193 | 298 => 194 | 299 => 195 | 216 => 196 | 300 => 197 | 301 => 198 | 328 => 207 | 329 => 202 | 330 => 203 | 331 => 208 | 332 => 209 | 215 => 169 | 343 => 211 | n => n, fun | 28 => 42 | 3 => 3 | 46 => 157 | 0 => 0 | 51 => 174 | 53 => 176 | 4 => 4 | 183 => 167 | 182 => 166 | 131 => 171 | 5 => 5 | 9 => 9 | 218 => 186 | 222 => 190 | 228 => 194 | 229 => 195 | n => n, fun | n => n⟩
theorem Try.sortI : Go.Proofs.Lays.n189 Try.prog Try.sortI_ren := {
  mixed := by kernel_rfl
  f125 := Try.func163.trans (congrArg some (by kernel_rfl))
  f128 := Try.func184.trans (congrArg some (by kernel_rfl))
  f129 := Try.func185.trans (congrArg some (by kernel_rfl))
  f189 := Try.func148.trans (congrArg some (by kernel_rfl))
  f215 := Try.func169.trans (congrArg some (by kernel_rfl))
  f216 := Try.func196.trans (congrArg some (by kernel_rfl))
  f257 := Try.func168.trans (congrArg some (by kernel_rfl))
  f294 := Try.func190.trans (congrArg some (by kernel_rfl))
  f295 := Try.func191.trans (congrArg some (by kernel_rfl))
  f296 := Try.func192.trans (congrArg some (by kernel_rfl))
  f297 := Try.func193.trans (congrArg some (by kernel_rfl))
  f298 := Try.func194.trans (congrArg some (by kernel_rfl))
  f299 := Try.func195.trans (congrArg some (by kernel_rfl))
  f300 := Try.func197.trans (congrArg some (by kernel_rfl))
  f301 := Try.func198.trans (congrArg some (by kernel_rfl))
  f328 := Try.func207.trans (congrArg some (by kernel_rfl))
  f329 := Try.func202.trans (congrArg some (by kernel_rfl))
  f330 := Try.func203.trans (congrArg some (by kernel_rfl))
  f331 := Try.func208.trans (congrArg some (by kernel_rfl))
  f332 := Try.func209.trans (congrArg some (by kernel_rfl))
  f343 := Try.func211.trans (congrArg some (by kernel_rfl))
  t0 := Try.underlying0
  a0 := Try.isAgg0
  z0 := Try.sizeOf0
  v0 := Try.zeroValue0
  t3 := Try.underlying3
  a3 := Try.isAgg3
  z3 := Try.sizeOf3
  v3 := Try.zeroValue3
  t4 := Try.underlying4
  a4 := Try.isAgg4
  z4 := Try.sizeOf4
  v4 := Try.zeroValue4
  t5 := Try.underlying5
  a5 := Try.isAgg5
  z5 := Try.sizeOf5
  v5 := Try.zeroValue5
  t9 := Try.underlying9
  a9 := Try.isAgg9
  z9 := Try.sizeOf9
  v9 := Try.zeroValue9
  t28 := Try.underlying42
  a28 := Try.isAgg42
  z28 := Try.sizeOf42
  v28 := Try.zeroValue42
  t46 := Try.underlying157
  a46 := Try.isAgg157
  z46 := Try.sizeOf157
  v46 := Try.zeroValue157
  t51 := Try.underlying174
  a51 := Try.isAgg174
  z51 := Try.sizeOf174
  v51 := Try.zeroValue174
  t53 := Try.underlying176
  a53 := Try.isAgg176
  z53 := Try.sizeOf176
  v53 := Try.zeroValue176
  t131 := Try.underlying171
  a131 := Try.isAgg171
  z131 := Try.sizeOf171
  v131 := Try.zeroValue171
  t182 := Try.underlying166
  a182 := Try.isAgg166
  z182 := Try.sizeOf166
  v182 := Try.zeroValue166
  t183 := Try.underlying167
  a183 := Try.isAgg167
  z183 := Try.sizeOf167
  v183 := Try.zeroValue167
  t218 := Try.underlying186
  a218 := Try.isAgg186
  z218 := Try.sizeOf186
  v218 := Try.zeroValue186
  t222 := Try.underlying190
  a222 := Try.isAgg190
  z222 := Try.sizeOf190
  v222 := Try.zeroValue190
  t228 := Try.underlying194
  a228 := Try.isAgg194
  z228 := Try.sizeOf194
  v228 := Try.zeroValue194
  t229 := Try.underlying195
  a229 := Try.isAgg195
  z229 := Try.sizeOf195
  v229 := Try.zeroValue195 }
end Go.Proofs
end
section
set_option maxRecDepth 100000
set_option linter.unusedSimpArgs false
set_option linter.unusedVariables false
namespace Go.Am
open Go.Proofs Go.Sort Go.Shelf
def prims : Nat → Option (List PV → Stack → Option (PV × Stack))
  | 148 => some sortI
  | _ => none
def G : Prog := ⟨codes, prims⟩
theorem gp (n : Nat) (h : prims n = none := by rfl) : G.prim n = none := h
theorem progOK : ProgOK Try.prog G := by
  refine ⟨progOK0.1, fun f af _ h => progOK0.code f af rfl h, fun f p h => ?_⟩
  simp only [G] at h
  unfold prims at h
  split at h
  · simp only [Option.some.injEq] at h
    subst h
    intro args o r o' e
    exact sortI_good Try.sortI ⟨Try.f148, Try.func148, by kernel_rfl, by decide +kernel⟩ e
  · cases h
theorem callI_prim {G : Prog} {f : Nat} {p : List PV → Stack → Option (PV × Stack)} (h : G.prim f = some p) (args : List PV) (o : Stack) : callI G f args o = p args o := by
  rw [callI_eq]
  simp only [body1, h]
theorem eqSortI (args : List PV) (o : Stack) : callI G 148 args o = sortI args o := callI_prim rfl args o
end Go.Am
end
section
set_option maxRecDepth 10000
set_option linter.unusedSimpArgs false
set_option linter.unusedVariables false
namespace Go.Am
open Go.Proofs
inductive Pi | mk (op x y : Int) (ps : List Pi)
mutual
def enc : Pi → PV
  | .mk o x y ps => .agg [.i o, .i x, .i y, .sl false 4 (encs ps)]
def encs : List Pi → List PV
  | [] => []
  | p :: ps => enc p :: encs ps
end
theorem encs_len : ∀ ps : List Pi, (encs ps).length = ps.length
  | [] => rfl
  | _ :: ps => by simp [encs, encs_len ps]
theorem encs_app : ∀ a b : List Pi, encs (a ++ b) = encs a ++ encs b
  | [], _ => rfl
  | _ :: a, b => by simp [encs, encs_app a b]
theorem encs_at (a : List Pi) (x : Pi) (b : List Pi) : nth (encs (a ++ x :: b)) a.length = some (enc x) := by
  unfold nth
  rw [encs_app, List.getElem?_append_right (by simp [encs_len])]
  simp [encs_len, encs]
theorem enc_cells (p : Pi) : (enc p).cells = match p with | .mk o x y ps => [.i o, .i x, .i y, .sl false 4 (encs ps)] := by cases p; rfl
mutual
def szPi : Pi → Int → Int
  | .mk _ _ _ ps, l => if l - ps.length < 0 then -1 else szL ps (l - ps.length)
def szL : List Pi → Int → Int
  | [], l => l
  | p :: ps, l => if szPi p l < 0 then -1 else szL ps (szPi p l)
end
mutual
/-- Lists of no more elements than memory holds. -/
def Fit : Pi → Prop
  | .mk _ _ _ ps => ps.length ≤ 9223372036854775807 ∧ Fits ps
def Fits : List Pi → Prop
  | [] => True
  | p :: ps => Fit p ∧ Fits ps
end
theorem wr {n : Int} (h : -9223372036854775808 ≤ n ∧ n ≤ 9223372036854775807) : IntKind.i64.wrap n = n := by
  simp only [IntKind.wrap, IntKind.bits, IntKind.signed]
  simp
  omega
mutual
theorem szPi_le : ∀ (p : Pi) (l : Int), 0 ≤ l → szPi p l ≤ l
  | .mk _ _ _ ps, l, h => by
    simp only [szPi]
    split
    · omega
    · have := szL_le ps (l - ps.length) (by omega)
      omega
theorem szL_le : ∀ (ps : List Pi) (l : Int), 0 ≤ l → szL ps l ≤ l
  | [], l, _ => by simp [szL]
  | p :: ps, l, h => by
    simp only [szL]
    split
    · omega
    · have h1 := szPi_le p l h
      have h2 := szL_le ps (szPi p l) (by omega)
      omega
end
theorem szPi_ge (p : Pi) (l : Int) (h : 0 ≤ l) : -1 ≤ szPi p l ∧ True := ⟨by
  have key : ∀ ps : List Pi, ∀ l : Int, 0 ≤ l → -1 ≤ szL ps l := by
    intro ps
    induction ps with
    | nil => intro l h; simp only [szL]; omega
    | cons p ps ih =>
      intro l h
      simp only [szL]
      split
      · omega
      · exact ih _ (by omega)
  obtain ⟨o, x, y, ps⟩ := p
  simp only [szPi]
  split
  · omega
  · exact key _ _ (by omega), trivial⟩
theorem szL_ge : ∀ (ps : List Pi) (l : Int), 0 ≤ l → -1 ≤ szL ps l
  | [], l, h => by simp only [szL]; omega
  | p :: ps, l, h => by
    simp only [szL]
    split
    · omega
    · exact szL_ge ps _ (by omega)
theorem loop35 (rest : List Pi) (ih : ∀ x ∈ rest, ∀ l : Int, 0 ≤ l → l ≤ 1048576 → callI G 126 [enc x, .i l] [] = some (.i (szPi x l), [])) :
    ∀ (done : List Pi) (l : Int), (done ++ rest).length ≤ 9223372036854775807 → 0 ≤ l → l ≤ 1048576 →
      loopI G [0, 1, 5] [] c71l0 ⟨[(0, .sl false 4 (encs (done ++ rest))), (1, .i l), (5, .i done.length)], [], []⟩ =
        if szL rest l < 0 then some (.ret, ⟨[(4, .i (-1))], [], []⟩) else some (.exit 0, ⟨[(0, .sl false 4 (encs (done ++ rest))), (1, .i (szL rest l)), (5, .i (done ++ rest).length), (15, .b false)], [], []⟩) := by
  induction rest with
  | nil =>
    intro done l h h0 h1
    rw [loopI_eq]
    have : ¬ l < 0 := by omega
    simp [r71l0, b71l0, szL, encs_len, this]
  | cons x rest ih2 =>
    intro done l h h0 h1
    rw [loopI_eq]
    have hc := ih x List.mem_cons_self l h0 h1
    have hat := encs_at done x rest
    have hlt : (done.length : Int) < (done.length : Int) + ((rest.length : Int) + 1) := by omega
    have hw : IntKind.i64.wrap ((done.length : Int) + 1) = (done.length : Int) + 1 := wr (by simp at h; omega)
    obtain ⟨o, a, b, ps⟩ := x
    by_cases hs : szPi (.mk o a b ps) l < 0
    · simp only [enc] at hc hat
      simp [r71l0, b71l0, szL, encs_len, hat, hlt, hs, hc]
    · have hn := ih2 (fun y hy => ih y (List.mem_cons_of_mem _ hy)) (done ++ [.mk o a b ps]) (szPi (.mk o a b ps) l) (by simpa using h) (by omega) (by have := szPi_le (.mk o a b ps) l h0; omega)
      simp only [List.append_assoc, List.cons_append, List.nil_append, List.length_append, List.length_cons, List.length_nil] at hn
      simp only [enc] at hc hat
      simp [r71l0, b71l0, szL, encs_len, hat, hlt, hs, hc, hw]
      simpa [Int.add_assoc] using hn
theorem eq35 (ps : List Pi) (hl : ps.length ≤ 9223372036854775807) (ih : ∀ x ∈ ps, ∀ l : Int, 0 ≤ l → l ≤ 1048576 → callI G 126 [enc x, .i l] [] = some (.i (szPi x l), [])) (l : Int) (h0 : 0 ≤ l) (h1 : l ≤ 1048576) :
    callI G 71 [.sl false 4 (encs ps), .i l] [] = some (.i (if l - ps.length < 0 then -1 else if szL ps (l - ps.length) < 0 then -1 else szL ps (l - ps.length)), []) := by
  rw [callI_eq]
  have hw : IntKind.i64.wrap (l - ps.length) = l - ps.length := wr (by omega)
  by_cases h : l - ps.length < 0
  · simp [body1_eq _ _ (gp 71) g71, c71, a71, hw, encs_len, h]
  · have hlp := loop35 ps ih [] (l - ps.length) (by simpa using hl) (by omega) (by omega)
    simp only [List.nil_append, List.length_nil, show ((0 : Nat) : Int) = 0 from rfl] at hlp
    by_cases h2 : szL ps (l - ps.length) < 0
    · simp only [h2, if_true] at hlp
      simp [body1_eq _ _ (gp 71) g71, c71, a71, hw, encs_len, h, h2, hlp]
    · simp only [h2, if_false] at hlp
      simp [body1_eq _ _ (gp 71) g71, c71, a71, hw, encs_len, h, h2, hlp]
mutual
theorem eq9 : ∀ (p : Pi), Fit p → ∀ l : Int, 0 ≤ l → l ≤ 1048576 → callI G 126 [enc p, .i l] [] = some (.i (szPi p l), [])
  | .mk o x y ps, hf, l, h0, h1 => by
    have h35 := eq35 ps hf.1 (eq9s ps hf.2) l h0 h1
    rw [callI_eq]
    by_cases h : l - ps.length < 0
    · simp only [h, if_true] at h35
      simp [body1_eq _ _ (gp 126) g126, c126, a126, enc, szPi, h, h35]
    · simp only [h, if_false] at h35
      by_cases h2 : szL ps (l - ps.length) < 0
      · simp only [h2, if_true] at h35
        have h3 := szL_ge ps (l - ps.length) (by omega)
        have h4 : szL ps (l - ps.length) = -1 := by omega
        simp [body1_eq _ _ (gp 126) g126, c126, a126, enc, szPi, h, h4, h35]
      · simp only [h2, if_false] at h35
        simp [body1_eq _ _ (gp 126) g126, c126, a126, enc, szPi, h, h2, h35]
theorem eq9s : ∀ (ps : List Pi), Fits ps → ∀ x ∈ ps, ∀ l : Int, 0 ≤ l → l ≤ 1048576 → callI G 126 [enc x, .i l] [] = some (.i (szPi x l), [])
  | [], _, x, hx => by cases hx
  | p :: ps, hf, x, hx => by
    rcases List.mem_cons.1 hx with h | hx
    · rw [h]; exact eq9 p hf.1
    · exact eq9s ps hf.2 x hx
end
end Go.Am
end
section
set_option maxRecDepth 10000
set_option linter.unusedSimpArgs false
set_option linter.unusedVariables false
namespace Go.Am
open Go.Proofs
mutual
def encU : Pi → PV
  | .mk o x y ps => .agg [.i o, .i x, .i y, .sl true 4 (encUs ps)]
def encUs : List Pi → List PV
  | [] => []
  | p :: ps => encU p :: encUs ps
end
theorem encUs_len : ∀ ps : List Pi, (encUs ps).length = ps.length
  | [] => rfl
  | _ :: ps => by simp [encUs, encUs_len ps]
theorem encUs_app : ∀ a b : List Pi, encUs (a ++ b) = encUs a ++ encUs b
  | [], _ => rfl
  | _ :: a, b => by simp [encUs, encUs_app a b]
mutual
theorem fal_encU : ∀ p, fal (encU p) = enc p
  | .mk o x y ps => by simp [encU, enc, fals_encU ps]
theorem fals_encU : ∀ ps, fals (encUs ps) = encs ps
  | [] => rfl
  | p :: ps => by simp [encUs, encs, fal_encU p, fals_encU ps]
end
abbrev Z4 : PV := .agg [.i 0, .i 0, .i 0, .nils]
theorem row_at (a : List Pi) (m : Nat) : nth (encUs a ++ Z4 :: List.replicate m Z4) a.length = some Z4 := by
  unfold nth
  rw [List.getElem?_append_right (by simp [encUs_len])]
  simp [encUs_len]
theorem row_set (a : List Pi) (m : Nat) (y : PV) : (encUs a ++ Z4 :: List.replicate m Z4).set a.length y = encUs a ++ y :: List.replicate m Z4 := by
  rw [List.set_append_right _ _ (by simp [encUs_len])]
  simp [encUs_len]
theorem loop38 (rest : List Pi) (ih : ∀ x ∈ rest, callI G 130 [enc x] [] = some (encU x, [])) :
    ∀ (done : List Pi), (done ++ rest).length ≤ 9223372036854775807 →
      loopI G [0, 3, 4] [7] c75l0 ⟨[(0, .sl false 4 (encs (done ++ rest))), (3, .own (0, 7) (done ++ rest).length), (4, .i done.length)], [(7, .row 4 (encUs done ++ List.replicate rest.length Z4))], []⟩ =
        some (.exit 0, ⟨[(0, .sl false 4 (encs (done ++ rest))), (3, .own (0, 7) (done ++ rest).length), (4, .i (done ++ rest).length), (11, .b false)], [(7, .row 4 (encUs (done ++ rest)))], []⟩) := by
  induction rest with
  | nil =>
    intro done h
    rw [loopI_eq]
    simp [r75l0, b75l0, encs_len]
  | cons x rest ih2 =>
    intro done h
    rw [loopI_eq]
    have hc := ih x List.mem_cons_self
    have hat := encs_at done x rest
    have hlt : (done.length : Int) < (done.length : Int) + ((rest.length : Int) + 1) := by omega
    have hw : IntKind.i64.wrap ((done.length : Int) + 1) = (done.length : Int) + 1 := wr (by simp at h; omega)
    obtain ⟨o, a, b, ps⟩ := x
    have hn := ih2 (fun y hy => ih y (List.mem_cons_of_mem _ hy)) (done ++ [.mk o a b ps]) (by simpa using h)
    simp only [enc, encU] at hc hat
    simp [r75l0, b75l0, encs_len, hat, hlt, hc, hw, List.replicate_succ, row_at, row_set, encUs_len]
    simpa [encUs_app, encUs, encU, unAgg, Int.add_assoc] using hn
theorem eq38 (ps : List Pi) (hl : ps.length ≤ 4294967296) (ih : ∀ x ∈ ps, callI G 130 [enc x] [] = some (encU x, [])) : callI G 75 [.sl false 4 (encs ps)] [] = some (.sl true 4 (encUs ps), []) := by
  rw [callI_eq]
  have hlp := loop38 ps ih [] (by simp; omega)
  simp only [List.nil_append, List.length_nil, encUs, show ((0 : Nat) : Int) = 0 from rfl] at hlp
  have h4 : (ps.length : Int) ≤ 4294967296 := by omega
  simp [body1_eq _ _ (gp 75) g75, c75, a75, encs_len, hl, h4, hlp, encUs_len]
mutual
/-- Lists that can be made. -/
def Small : Pi → Prop
  | .mk _ _ _ ps => ps.length ≤ 4294967296 ∧ Smalls ps
def Smalls : List Pi → Prop
  | [] => True
  | p :: ps => Small p ∧ Smalls ps
end
mutual
theorem szPi_small : ∀ (p : Pi) (l : Int), 0 ≤ l → l ≤ 1048576 → 0 ≤ szPi p l → Small p
  | .mk _ _ _ ps, l, h0, h1, h => by
    simp only [szPi] at h
    split at h
    · omega
    · exact ⟨by omega, szL_small ps (l - ps.length) (by omega) (by omega) h⟩
theorem szL_small : ∀ (ps : List Pi) (l : Int), 0 ≤ l → l ≤ 1048576 → 0 ≤ szL ps l → Smalls ps
  | [], _, _, _, _ => trivial
  | p :: ps, l, h0, h1, h => by
    simp only [szL] at h
    split at h
    · omega
    · have := szPi_le p l h0
      exact ⟨szPi_small p l h0 h1 (by omega), szL_small ps _ (by omega) (by omega) h⟩
end
mutual
theorem eq11 : ∀ (p : Pi), Small p → callI G 130 [enc p] [] = some (encU p, [])
  | .mk o x y ps, hf => by
    have h38 := eq38 ps hf.1 (eq11s ps hf.2)
    rw [callI_eq]
    simp [body1_eq _ _ (gp 130) g130, c130, a130, enc, encU, h38]
theorem eq11s : ∀ (ps : List Pi), Smalls ps → ∀ x ∈ ps, callI G 130 [enc x] [] = some (encU x, [])
  | [], _, x, hx => by cases hx
  | p :: ps, hf, x, hx => by
    rcases List.mem_cons.1 hx with h | hx
    · rw [h]; exact eq11 p hf.1
    · exact eq11s ps hf.2 x hx
end
end Go.Am
end
section
set_option maxRecDepth 10000
set_option linter.unusedSimpArgs false
set_option linter.unusedVariables false
namespace Go.Am
open Go.Proofs
theorem piName (k : Int) : callI G 199 [.i k] [] = some (.b (decide (0 ≤ k) && decide (k < 30)), []) := by
  rw [callI_eq]
  by_cases h : 0 ≤ k <;> simp [body1_eq _ _ (gp 199) g199, c199, a199, h]
theorem l6In (a b c : Int) : callI G 60 [.i a, .i b, .i c] [] = some (.b (decide (b ≤ a) && decide (a ≤ c)), []) := by
  rw [callI_eq]
  by_cases h : b ≤ a <;> simp [body1_eq _ _ (gp 60) g60, c60, a60, h]
theorem l13Name (a : Int) : callI G 171 [.i a] [] = some (.b (decide (0 ≤ a) && decide (a ≤ 29)), []) := by
  rw [callI_eq]
  simp [body1_eq _ _ (gp 171) g171, c171, a171, l6In]
/-- The names of a term are as its kind wants them; how many parts it has. -/
def nm (k : Int) : Bool := decide (0 ≤ k) && decide (k ≤ 29)
def kindOK (o x y : Int) : Option (Bool × Nat) :=
  if o = 0 then some (decide (x = 0) && decide (y = 0), 0)
  else if o = 3 then some (decide (x = 0) && decide (y = 0), 1)
  else if o = 4 ∨ o = 5 then some (decide (x = 0) && decide (y = 0), 2)
  else if o = 6 then some ((nm x && nm y) && decide (y < 3), 1)
  else if o = 1 ∨ o = 2 ∨ o = 7 then some (nm x && nm y, 1)
  else none
mutual
def nodes : Pi → Int
  | .mk o x y ps => match kindOK o x y with
    | none => 0
    | some (ok, k) => if ok = true ∧ ps.length = k then nodesL ps 1 else 0
def nodesL : List Pi → Int → Int
  | [], n => n
  | p :: ps, n => if nodes p = 0 then 0 else nodesL ps (if n + nodes p < 1000 then n + nodes p else 1000)
end
theorem loop37 (o a b : Int) (rest : List Pi) (ih : ∀ x ∈ rest, callI G 155 [enc x] [] = some (.i (nodes x), []) ∧ 0 ≤ nodes x ∧ nodes x ≤ 1000) :
    ∀ (done : List Pi) (n : Int), (done ++ rest).length ≤ 9223372036854775807 → 1 ≤ n → n ≤ 1000 → ∀ m : Int, m = (done ++ rest).length →
      loopI G [1, 3, 5, 6] [1] c155l0 ⟨[(1, .ref (0, 1) 1 0 0), (3, .i m), (5, .i n), (6, .i done.length)], [(1, .box [.i o, .i a, .i b, .sl false 4 (encs (done ++ rest))])], []⟩ =
        if nodesL rest n = 0 then some (.ret, ⟨[(2, .i 0)], [], []⟩) else some (.exit 1, ⟨[(1, .ref (0, 1) 1 0 0), (3, .i m), (5, .i (nodesL rest n)), (6, .i m), (72, .b false)], [(1, .box [.i o, .i a, .i b, .sl false 4 (encs (done ++ rest))])], []⟩) := by
  induction rest with
  | nil =>
    intro done n h h0 h1 m hm
    have hn0 : ¬ n = 0 := by omega
    subst hm
    rw [loopI_eq]
    simp [r155l0, b155l0, encs_len, nodesL, hn0]
  | cons x rest ih2 =>
    intro done n h h0 h1 m hm
    rw [loopI_eq]
    obtain ⟨hc, hx0, hx1⟩ := ih x List.mem_cons_self
    have hat := encs_at done x rest
    have hlt : (done.length : Int) < m := by rw [hm]; simp; omega
    have hlt2 : (done.length : Int) < (done.length : Int) + ((rest.length : Int) + 1) := by omega
    have hw : IntKind.i64.wrap ((done.length : Int) + 1) = (done.length : Int) + 1 := wr (by simp at h; omega)
    have hw2 : IntKind.i64.wrap (n + nodes x) = n + nodes x := wr (by omega)
    by_cases hs : nodes x = 0
    · obtain ⟨o', a', b', ps⟩ := x
      simp only [enc] at hc hat
      simp [r155l0, b155l0, encs_len, hat, hlt, hlt2, hc, hw, hs, nodesL]
    · have hn := ih2 (fun y hy => ih y (List.mem_cons_of_mem _ hy)) (done ++ [x]) (if n + nodes x < 1000 then n + nodes x else 1000) (by simpa using h) (by split <;> omega) (by split <;> omega) m (by simpa using hm)
      obtain ⟨o', a', b', ps⟩ := x
      simp only [enc] at hc hat
      simp [r155l0, b155l0, encs_len, hat, hlt, hlt2, hc, hw, hw2, hs]
      simpa [nodesL, hs, Int.add_assoc] using hn
end Go.Am
end
section
set_option maxRecDepth 10000
set_option linter.unusedSimpArgs false
set_option linter.unusedVariables false
namespace Go.Am
open Go.Proofs
theorem b37_0 (x y : Int) (ps : List Pi) (hl : ps.length ≤ 9223372036854775807) (ih : ∀ p ∈ ps, callI G 155 [enc p] [] = some (.i (nodes p), []) ∧ 0 ≤ nodes p ∧ nodes p ≤ 1000) : callI G 155 [enc (.mk 0 x y ps)] [] = some (.i (nodes (.mk 0 x y ps)), []) := by
  have hlp := fun o x y => loop37 o x y ps ih [] 1 (by simpa using hl) (by omega) (by omega)
  simp only [List.nil_append, List.length_nil, show ((0 : Nat) : Int) = 0 from rfl] at hlp
  have hnm : ∀ a, callI G 171 [.i a] [] = some (.b (nm a), []) := fun a => l13Name a
  rw [callI_eq]
  by_cases hk : (ps.length : Int) = 0
  · have hk2 : ps.length = 0 := by omega
    simp [body1_eq _ _ (gp 155) g155, c155, a155, enc, hnm, encs_len, hlp, hk, nodes, kindOK, hk2]
    repeat' split
    all_goals (try simp_all)
    all_goals (try omega)
  · have hk2 : ¬ ps.length = 0 := by omega
    simp [body1_eq _ _ (gp 155) g155, c155, a155, enc, hnm, encs_len, hk, nodes, kindOK, hk2]
theorem b37_1 (x y : Int) (ps : List Pi) (hl : ps.length ≤ 9223372036854775807) (ih : ∀ p ∈ ps, callI G 155 [enc p] [] = some (.i (nodes p), []) ∧ 0 ≤ nodes p ∧ nodes p ≤ 1000) : callI G 155 [enc (.mk 1 x y ps)] [] = some (.i (nodes (.mk 1 x y ps)), []) := by
  have hlp := fun o x y => loop37 o x y ps ih [] 1 (by simpa using hl) (by omega) (by omega)
  simp only [List.nil_append, List.length_nil, show ((0 : Nat) : Int) = 0 from rfl] at hlp
  have hnm : ∀ a, callI G 171 [.i a] [] = some (.b (nm a), []) := fun a => l13Name a
  rw [callI_eq]
  by_cases hk : (ps.length : Int) = 1
  · have hk2 : ps.length = 1 := by omega
    simp [body1_eq _ _ (gp 155) g155, c155, a155, enc, hnm, encs_len, hlp, hk, nodes, kindOK, hk2]
    repeat' split
    all_goals (try simp_all)
    all_goals (try omega)
  · have hk2 : ¬ ps.length = 1 := by omega
    simp [body1_eq _ _ (gp 155) g155, c155, a155, enc, hnm, encs_len, hk, nodes, kindOK, hk2]
theorem b37_2 (x y : Int) (ps : List Pi) (hl : ps.length ≤ 9223372036854775807) (ih : ∀ p ∈ ps, callI G 155 [enc p] [] = some (.i (nodes p), []) ∧ 0 ≤ nodes p ∧ nodes p ≤ 1000) : callI G 155 [enc (.mk 2 x y ps)] [] = some (.i (nodes (.mk 2 x y ps)), []) := by
  have hlp := fun o x y => loop37 o x y ps ih [] 1 (by simpa using hl) (by omega) (by omega)
  simp only [List.nil_append, List.length_nil, show ((0 : Nat) : Int) = 0 from rfl] at hlp
  have hnm : ∀ a, callI G 171 [.i a] [] = some (.b (nm a), []) := fun a => l13Name a
  rw [callI_eq]
  by_cases hk : (ps.length : Int) = 1
  · have hk2 : ps.length = 1 := by omega
    simp [body1_eq _ _ (gp 155) g155, c155, a155, enc, hnm, encs_len, hlp, hk, nodes, kindOK, hk2]
    repeat' split
    all_goals (try simp_all)
    all_goals (try omega)
  · have hk2 : ¬ ps.length = 1 := by omega
    simp [body1_eq _ _ (gp 155) g155, c155, a155, enc, hnm, encs_len, hk, nodes, kindOK, hk2]
theorem b37_3 (x y : Int) (ps : List Pi) (hl : ps.length ≤ 9223372036854775807) (ih : ∀ p ∈ ps, callI G 155 [enc p] [] = some (.i (nodes p), []) ∧ 0 ≤ nodes p ∧ nodes p ≤ 1000) : callI G 155 [enc (.mk 3 x y ps)] [] = some (.i (nodes (.mk 3 x y ps)), []) := by
  have hlp := fun o x y => loop37 o x y ps ih [] 1 (by simpa using hl) (by omega) (by omega)
  simp only [List.nil_append, List.length_nil, show ((0 : Nat) : Int) = 0 from rfl] at hlp
  have hnm : ∀ a, callI G 171 [.i a] [] = some (.b (nm a), []) := fun a => l13Name a
  rw [callI_eq]
  by_cases hk : (ps.length : Int) = 1
  · have hk2 : ps.length = 1 := by omega
    simp [body1_eq _ _ (gp 155) g155, c155, a155, enc, hnm, encs_len, hlp, hk, nodes, kindOK, hk2]
    repeat' split
    all_goals (try simp_all)
    all_goals (try omega)
  · have hk2 : ¬ ps.length = 1 := by omega
    simp [body1_eq _ _ (gp 155) g155, c155, a155, enc, hnm, encs_len, hk, nodes, kindOK, hk2]
theorem b37_4 (x y : Int) (ps : List Pi) (hl : ps.length ≤ 9223372036854775807) (ih : ∀ p ∈ ps, callI G 155 [enc p] [] = some (.i (nodes p), []) ∧ 0 ≤ nodes p ∧ nodes p ≤ 1000) : callI G 155 [enc (.mk 4 x y ps)] [] = some (.i (nodes (.mk 4 x y ps)), []) := by
  have hlp := fun o x y => loop37 o x y ps ih [] 1 (by simpa using hl) (by omega) (by omega)
  simp only [List.nil_append, List.length_nil, show ((0 : Nat) : Int) = 0 from rfl] at hlp
  have hnm : ∀ a, callI G 171 [.i a] [] = some (.b (nm a), []) := fun a => l13Name a
  rw [callI_eq]
  by_cases hk : (ps.length : Int) = 2
  · have hk2 : ps.length = 2 := by omega
    simp [body1_eq _ _ (gp 155) g155, c155, a155, enc, hnm, encs_len, hlp, hk, nodes, kindOK, hk2]
    repeat' split
    all_goals (try simp_all)
    all_goals (try omega)
  · have hk2 : ¬ ps.length = 2 := by omega
    simp [body1_eq _ _ (gp 155) g155, c155, a155, enc, hnm, encs_len, hk, nodes, kindOK, hk2]
theorem b37_5 (x y : Int) (ps : List Pi) (hl : ps.length ≤ 9223372036854775807) (ih : ∀ p ∈ ps, callI G 155 [enc p] [] = some (.i (nodes p), []) ∧ 0 ≤ nodes p ∧ nodes p ≤ 1000) : callI G 155 [enc (.mk 5 x y ps)] [] = some (.i (nodes (.mk 5 x y ps)), []) := by
  have hlp := fun o x y => loop37 o x y ps ih [] 1 (by simpa using hl) (by omega) (by omega)
  simp only [List.nil_append, List.length_nil, show ((0 : Nat) : Int) = 0 from rfl] at hlp
  have hnm : ∀ a, callI G 171 [.i a] [] = some (.b (nm a), []) := fun a => l13Name a
  rw [callI_eq]
  by_cases hk : (ps.length : Int) = 2
  · have hk2 : ps.length = 2 := by omega
    simp [body1_eq _ _ (gp 155) g155, c155, a155, enc, hnm, encs_len, hlp, hk, nodes, kindOK, hk2]
    repeat' split
    all_goals (try simp_all)
    all_goals (try omega)
  · have hk2 : ¬ ps.length = 2 := by omega
    simp [body1_eq _ _ (gp 155) g155, c155, a155, enc, hnm, encs_len, hk, nodes, kindOK, hk2]
theorem b37_6 (x y : Int) (ps : List Pi) (hl : ps.length ≤ 9223372036854775807) (ih : ∀ p ∈ ps, callI G 155 [enc p] [] = some (.i (nodes p), []) ∧ 0 ≤ nodes p ∧ nodes p ≤ 1000) : callI G 155 [enc (.mk 6 x y ps)] [] = some (.i (nodes (.mk 6 x y ps)), []) := by
  have hlp := fun o x y => loop37 o x y ps ih [] 1 (by simpa using hl) (by omega) (by omega)
  simp only [List.nil_append, List.length_nil, show ((0 : Nat) : Int) = 0 from rfl] at hlp
  have hnm : ∀ a, callI G 171 [.i a] [] = some (.b (nm a), []) := fun a => l13Name a
  rw [callI_eq]
  by_cases hk : (ps.length : Int) = 1
  · have hk2 : ps.length = 1 := by omega
    simp [body1_eq _ _ (gp 155) g155, c155, a155, enc, hnm, encs_len, hlp, hk, nodes, kindOK, hk2]
    repeat' split
    all_goals (try simp_all)
    all_goals (try omega)
  · have hk2 : ¬ ps.length = 1 := by omega
    simp [body1_eq _ _ (gp 155) g155, c155, a155, enc, hnm, encs_len, hk, nodes, kindOK, hk2]
theorem b37_7 (x y : Int) (ps : List Pi) (hl : ps.length ≤ 9223372036854775807) (ih : ∀ p ∈ ps, callI G 155 [enc p] [] = some (.i (nodes p), []) ∧ 0 ≤ nodes p ∧ nodes p ≤ 1000) : callI G 155 [enc (.mk 7 x y ps)] [] = some (.i (nodes (.mk 7 x y ps)), []) := by
  have hlp := fun o x y => loop37 o x y ps ih [] 1 (by simpa using hl) (by omega) (by omega)
  simp only [List.nil_append, List.length_nil, show ((0 : Nat) : Int) = 0 from rfl] at hlp
  have hnm : ∀ a, callI G 171 [.i a] [] = some (.b (nm a), []) := fun a => l13Name a
  rw [callI_eq]
  by_cases hk : (ps.length : Int) = 1
  · have hk2 : ps.length = 1 := by omega
    simp [body1_eq _ _ (gp 155) g155, c155, a155, enc, hnm, encs_len, hlp, hk, nodes, kindOK, hk2]
    repeat' split
    all_goals (try simp_all)
    all_goals (try omega)
  · have hk2 : ¬ ps.length = 1 := by omega
    simp [body1_eq _ _ (gp 155) g155, c155, a155, enc, hnm, encs_len, hk, nodes, kindOK, hk2]
theorem b37_d (o x y : Int) (ps : List Pi) (h : ¬ o = 0 ∧ ¬ o = 1 ∧ ¬ o = 2 ∧ ¬ o = 3 ∧ ¬ o = 4 ∧ ¬ o = 5 ∧ ¬ o = 6 ∧ ¬ o = 7) : callI G 155 [enc (.mk o x y ps)] [] = some (.i (nodes (.mk o x y ps)), []) := by
  obtain ⟨h0, h1, h2, h3, h4, h5, h6, h7⟩ := h
  have hnm : ∀ a, callI G 171 [.i a] [] = some (.b (nm a), []) := fun a => l13Name a
  rw [callI_eq]
  simp [body1_eq _ _ (gp 155) g155, c155, a155, enc, hnm, nodes, kindOK, h0, h1, h2, h3, h4, h5, h6, h7]
theorem nodesL_le : ∀ (ps : List Pi) (n : Int), (∀ p ∈ ps, 0 ≤ nodes p ∧ nodes p ≤ 1000) → 0 ≤ n → n ≤ 1000 → 0 ≤ nodesL ps n ∧ nodesL ps n ≤ 1000
  | [], n, _, h0, h1 => by simp [nodesL]; omega
  | p :: ps, n, h, h0, h1 => by
    have hp := h p List.mem_cons_self
    simp only [nodesL]
    split
    · omega
    · exact nodesL_le ps _ (fun q hq => h q (List.mem_cons_of_mem _ hq)) (by split <;> omega) (by split <;> omega)
mutual
theorem nodes_le : ∀ p : Pi, 0 ≤ nodes p ∧ nodes p ≤ 1000
  | .mk o x y ps => by
    simp only [nodes]
    split
    · omega
    · split
      · exact nodesL_le ps 1 (nodes_les ps) (by omega) (by omega)
      · omega
theorem nodes_les : ∀ (ps : List Pi), ∀ p ∈ ps, 0 ≤ nodes p ∧ nodes p ≤ 1000
  | [], p, h => by cases h
  | q :: ps, p, h => by
    rcases List.mem_cons.1 h with h | h
    · rw [h]; exact nodes_le q
    · exact nodes_les ps p h
end
mutual
theorem eq37 : ∀ p : Pi, Fit p → callI G 155 [enc p] [] = some (.i (nodes p), [])
  | .mk o x y ps, hf => by
    have ih := fun p hp => And.intro (eq37s ps hf.2 p hp) (nodes_le p)
    by_cases h0 : o = 0
    · rw [h0]; exact b37_0 x y ps hf.1 ih
    by_cases h1 : o = 1
    · rw [h1]; exact b37_1 x y ps hf.1 ih
    by_cases h2 : o = 2
    · rw [h2]; exact b37_2 x y ps hf.1 ih
    by_cases h3 : o = 3
    · rw [h3]; exact b37_3 x y ps hf.1 ih
    by_cases h4 : o = 4
    · rw [h4]; exact b37_4 x y ps hf.1 ih
    by_cases h5 : o = 5
    · rw [h5]; exact b37_5 x y ps hf.1 ih
    by_cases h6 : o = 6
    · rw [h6]; exact b37_6 x y ps hf.1 ih
    by_cases h7 : o = 7
    · rw [h7]; exact b37_7 x y ps hf.1 ih
    exact b37_d o x y ps ⟨h0, h1, h2, h3, h4, h5, h6, h7⟩
theorem eq37s : ∀ (ps : List Pi), Fits ps → ∀ p ∈ ps, callI G 155 [enc p] [] = some (.i (nodes p), [])
  | [], _, p, h => by cases h
  | q :: ps, hf, p, h => by
    rcases List.mem_cons.1 h with h | h
    · rw [h]; exact eq37 q hf.1
    · exact eq37s ps hf.2 p h
end
theorem eq10 (p : Pi) (hf : Fit p) : callI G 127 [enc p] [] = some (.b (decide (1 ≤ nodes p) && decide (nodes p ≤ 14)), []) := by
  have h := eq37 p hf
  rw [callI_eq]
  obtain ⟨o, x, y, ps⟩ := p
  simp only [enc] at h
  simp [body1_eq _ _ (gp 127) g127, c127, a127, enc, h, l6In]
end Go.Am
end
section
set_option maxRecDepth 10000
set_option linter.unusedSimpArgs false
set_option linter.unusedVariables false
namespace Go.Am
open Go.Proofs
mutual
def pn : Pi → Int → Int
  | .mk _ _ _ ps, m => pnL ps 1 m
def pnL : List Pi → Int → Int → Int
  | [], n, _ => n
  | p :: ps, n, m => if m < n then n else pnL ps (n + pn p (m - n)) m
end
mutual
theorem pn_le : ∀ (p : Pi) (m : Int), 0 ≤ m → 1 ≤ pn p m ∧ pn p m ≤ m + 1
  | .mk _ _ _ ps, m, h => by simp only [pn]; exact pnL_le ps 1 m h (by omega) (by omega)
theorem pnL_le : ∀ (ps : List Pi) (n m : Int), 0 ≤ m → 1 ≤ n → n ≤ m + 1 → 1 ≤ pnL ps n m ∧ pnL ps n m ≤ m + 1
  | [], n, m, h, h1, h2 => by simp only [pnL]; omega
  | p :: ps, n, m, h, h1, h2 => by
    simp only [pnL]
    split
    · omega
    · have := pn_le p (m - n) (by omega)
      exact pnL_le ps _ m h (by omega) (by omega)
end
theorem loop39 (m : Int) (hm0 : 0 ≤ m) (hm : m ≤ 1000) (rest : List Pi) (ih : ∀ x ∈ rest, ∀ m : Int, 0 ≤ m → m ≤ 1000 → callI G 172 [enc x, .i m] [] = some (.i (pn x m), [])) :
    ∀ (done : List Pi) (n : Int), (done ++ rest).length ≤ 9223372036854775807 → 1 ≤ n → n ≤ m + 1 →
      ∃ r, loopI G [1, 5, 9, 10, 11] [] c172l0 ⟨[(1, .i m), (5, .i n), (9, .sl false 4 (encs (done ++ rest))), (10, .i (done ++ rest).length), (11, .i done.length)], [], []⟩ = some r ∧
        (r = (.ret, ⟨[(4, .i (pnL rest n m))], [], []⟩) ∨ r = (.exit 0, ⟨[(1, .i m), (5, .i (pnL rest n m)), (9, .sl false 4 (encs (done ++ rest))), (10, .i (done ++ rest).length), (11, .i (done ++ rest).length), (12, .b false)], [], []⟩)) := by
  induction rest with
  | nil =>
    intro done n h h0 h1
    rw [loopI_eq]
    simp [r172l0, b172l0, encs_len, pnL]
  | cons x rest ih2 =>
    intro done n h h0 h1
    rw [loopI_eq]
    have hat := encs_at done x rest
    have hlt2 : (done.length : Int) < (done.length : Int) + ((rest.length : Int) + 1) := by omega
    have hw : IntKind.i64.wrap ((done.length : Int) + 1) = (done.length : Int) + 1 := wr (by simp at h; omega)
    by_cases hs : m < n
    · obtain ⟨o', a', b', ps⟩ := x
      simp only [enc] at hat
      simp [r172l0, b172l0, encs_len, hat, hlt2, hw, hs, pnL]
    · have hc := ih x List.mem_cons_self (m - n) (by omega) (by omega)
      have hb := pn_le x (m - n) (by omega)
      have hw2 : IntKind.i64.wrap (n + pn x (m - n)) = n + pn x (m - n) := wr (by omega)
      have hw3 : IntKind.i64.wrap (m - n) = m - n := wr (by omega)
      have hn := ih2 (fun y hy => ih y (List.mem_cons_of_mem _ hy)) (done ++ [x]) (n + pn x (m - n)) (by simpa using h) (by omega) (by omega)
      obtain ⟨o', a', b', ps⟩ := x
      simp only [enc] at hc hat
      simp [r172l0, b172l0, encs_len, hat, hlt2, hc, hw, hw2, hw3, hs]
      simpa [pnL, hs, Int.add_assoc] using hn
mutual
theorem eq39 : ∀ p : Pi, Fit p → ∀ m : Int, 0 ≤ m → m ≤ 1000 → callI G 172 [enc p, .i m] [] = some (.i (pn p m), [])
  | .mk o x y ps, hf, m, h0, h1 => by
    obtain ⟨r, hl, hr⟩ := loop39 m h0 h1 ps (eq39s ps hf.2) [] 1 (by simpa using hf.1) (by omega) (by omega)
    simp only [List.nil_append, List.length_nil, show ((0 : Nat) : Int) = 0 from rfl] at hl hr
    rw [callI_eq]
    rcases hr with hr | hr <;> simp [body1_eq _ _ (gp 172) g172, c172, a172, enc, encs_len, hl, hr, pn]
theorem eq39s : ∀ ps : List Pi, Fits ps → ∀ p ∈ ps, ∀ m : Int, 0 ≤ m → m ≤ 1000 → callI G 172 [enc p, .i m] [] = some (.i (pn p m), [])
  | [], _, p, h => by cases h
  | q :: ps, hf, p, h => by
    rcases List.mem_cons.1 h with h | h
    · rw [h]; exact eq39 q hf.1
    · exact eq39s ps hf.2 p h
end
/-- slices.IndexFunc with a closure that holds nothing. -/
theorem loop73 (cf : Nat) (F : Pi → Bool) (rest : List Pi) (ih : ∀ x ∈ rest, callI G cf [enc x] [] = some (.b (F x), [])) :
    ∀ (done : List Pi), (done ++ rest).length ≤ 9223372036854775807 →
      ∃ r, loopI G [0, 1, 7, 8] [] c135l0 ⟨[(0, .sl false 4 (encs (done ++ rest))), (1, .clo cf []), (7, .i (done ++ rest).length), (8, .i done.length)], [], []⟩ = some r ∧
        ((rest.any F = true ∧ ∃ i : Int, 0 ≤ i ∧ r = (.ret, ⟨[(4, .i i)], [], []⟩)) ∨ (rest.any F = false ∧ r = (.exit 0, ⟨[(0, .sl false 4 (encs (done ++ rest))), (1, .clo cf []), (7, .i (done ++ rest).length), (8, .i (done ++ rest).length), (9, .b false)], [], []⟩))) := by
  induction rest with
  | nil =>
    intro done h
    rw [loopI_eq]
    simp [r135l0, b135l0, encs_len]
  | cons x rest ih2 =>
    intro done h
    rw [loopI_eq]
    have hat := encs_at done x rest
    have hlt2 : (done.length : Int) < (done.length : Int) + ((rest.length : Int) + 1) := by omega
    have hw : IntKind.i64.wrap ((done.length : Int) + 1) = (done.length : Int) + 1 := wr (by simp at h; omega)
    have hc := ih x List.mem_cons_self
    by_cases hs : F x = true
    · obtain ⟨o', a', b', ps⟩ := x
      simp only [enc] at hat hc
      simp [r135l0, b135l0, encs_len, hat, hlt2, hc, hw, hs]
    · have hs2 : F x = false := by simpa using hs
      have hn := ih2 (fun y hy => ih y (List.mem_cons_of_mem _ hy)) (done ++ [x]) (by simpa using h)
      obtain ⟨o', a', b', ps⟩ := x
      simp only [enc] at hc hat
      simp [r135l0, b135l0, encs_len, hat, hlt2, hc, hw, hs2]
      simpa [hs2, Int.add_assoc] using hn
theorem eq53 (cf : Nat) (F : Pi → Bool) (ps : List Pi) (hl : ps.length ≤ 9223372036854775807) (ih : ∀ x ∈ ps, callI G cf [enc x] [] = some (.b (F x), [])) : callI G 79 [.sl false 4 (encs ps), .clo cf []] [] = some (.b (ps.any F), []) := by
  have h73 : ∃ i : Int, (decide (0 ≤ i)) = ps.any F ∧ callI G 135 [.sl false 4 (encs ps), .clo cf []] [] = some (.i i, []) := by
    obtain ⟨r, hl, hr⟩ := loop73 cf F ps ih [] (by simpa using hl)
    simp only [List.nil_append, List.length_nil, show ((0 : Nat) : Int) = 0 from rfl] at hl hr
    rcases hr with ⟨ha, i, hi, hr⟩ | ⟨ha, hr⟩
    · refine ⟨i, by simp [ha, hi], ?_⟩
      rw [callI_eq]
      simp [body1_eq _ _ (gp 135) g135, c135, a135, encs_len, hl, hr]
    · refine ⟨-1, by simp [ha], ?_⟩
      rw [callI_eq]
      simp [body1_eq _ _ (gp 135) g135, c135, a135, encs_len, hl, hr]
  obtain ⟨i, hi, hc⟩ := h73
  rw [callI_eq]
  simp [body1_eq _ _ (gp 79) g79, c79, a79, hc, hi]
end Go.Am
end
section
set_option maxRecDepth 10000
set_option linter.unusedSimpArgs false
set_option linter.unusedVariables false
namespace Go.Am
open Go.Proofs
mutual
def shape : Pi → Bool
  | .mk o x y ps => match kindOK o x y with
    | none => false
    | some (ok, k) => ok && (decide (ps.length = k) && shapes ps)
def shapes : List Pi → Bool
  | [] => true
  | p :: ps => shape p && shapes ps
end
theorem any_not_shape : ∀ ps : List Pi, ps.any (fun p => !shape p) = !shapes ps
  | [] => rfl
  | p :: ps => by simp [shapes, any_not_shape ps]
theorem eq58 (k : Int) : callI G 199 [.i k] [] = some (.b (nm k), []) := by
  rw [piName]
  have : decide (k < 30) = decide (k ≤ 29) := by
    by_cases h : k < 30
    · have : k ≤ 29 := by omega
      simp [h, this]
    · have : ¬ k ≤ 29 := by omega
      simp [h, this]
  simp [nm, this]
theorem eq61 (x : Pi) (b : Bool) (h : callI G 173 [enc x] [] = some (.b b, [])) : callI G 200 [enc x] [] = some (.b (!b), []) := by
  rw [callI_eq]
  obtain ⟨o', a', b', ps⟩ := x
  simp only [enc] at h
  simp [body1_eq _ _ (gp 200) g200, c200, a200, enc, h]
theorem b40_0 (x y : Int) (ps : List Pi) (hl : ps.length ≤ 9223372036854775807) (ih : ∀ p ∈ ps, callI G 173 [enc p] [] = some (.b (shape p), [])) : callI G 173 [enc (.mk 0 x y ps)] [] = some (.b (shape (.mk 0 x y ps)), []) := by
  have h53 := eq53 200 (fun p => !shape p) ps hl (fun x hx => eq61 x _ (ih x hx))
  simp only [any_not_shape] at h53
  rw [callI_eq]
  by_cases hk : (ps.length : Int) = 0
  · have hk2 : ps.length = 0 := by omega
    simp [body1_eq _ _ (gp 173) g173, c173, a173, enc, eq58, encs_len, h53, hk, shape, kindOK, hk2]
    repeat' split
    all_goals (try simp_all)
    all_goals (try omega)
  · have hk2 : ¬ ps.length = 0 := by omega
    simp [body1_eq _ _ (gp 173) g173, c173, a173, enc, eq58, encs_len, hk, shape, kindOK, hk2]
theorem b40_1 (x y : Int) (ps : List Pi) (hl : ps.length ≤ 9223372036854775807) (ih : ∀ p ∈ ps, callI G 173 [enc p] [] = some (.b (shape p), [])) : callI G 173 [enc (.mk 1 x y ps)] [] = some (.b (shape (.mk 1 x y ps)), []) := by
  have h53 := eq53 200 (fun p => !shape p) ps hl (fun x hx => eq61 x _ (ih x hx))
  simp only [any_not_shape] at h53
  rw [callI_eq]
  by_cases hk : (ps.length : Int) = 1
  · have hk2 : ps.length = 1 := by omega
    simp [body1_eq _ _ (gp 173) g173, c173, a173, enc, eq58, encs_len, h53, hk, shape, kindOK, hk2]
    repeat' split
    all_goals (try simp_all)
    all_goals (try omega)
  · have hk2 : ¬ ps.length = 1 := by omega
    simp [body1_eq _ _ (gp 173) g173, c173, a173, enc, eq58, encs_len, hk, shape, kindOK, hk2]
theorem b40_2 (x y : Int) (ps : List Pi) (hl : ps.length ≤ 9223372036854775807) (ih : ∀ p ∈ ps, callI G 173 [enc p] [] = some (.b (shape p), [])) : callI G 173 [enc (.mk 2 x y ps)] [] = some (.b (shape (.mk 2 x y ps)), []) := by
  have h53 := eq53 200 (fun p => !shape p) ps hl (fun x hx => eq61 x _ (ih x hx))
  simp only [any_not_shape] at h53
  rw [callI_eq]
  by_cases hk : (ps.length : Int) = 1
  · have hk2 : ps.length = 1 := by omega
    simp [body1_eq _ _ (gp 173) g173, c173, a173, enc, eq58, encs_len, h53, hk, shape, kindOK, hk2]
    repeat' split
    all_goals (try simp_all)
    all_goals (try omega)
  · have hk2 : ¬ ps.length = 1 := by omega
    simp [body1_eq _ _ (gp 173) g173, c173, a173, enc, eq58, encs_len, hk, shape, kindOK, hk2]
theorem b40_3 (x y : Int) (ps : List Pi) (hl : ps.length ≤ 9223372036854775807) (ih : ∀ p ∈ ps, callI G 173 [enc p] [] = some (.b (shape p), [])) : callI G 173 [enc (.mk 3 x y ps)] [] = some (.b (shape (.mk 3 x y ps)), []) := by
  have h53 := eq53 200 (fun p => !shape p) ps hl (fun x hx => eq61 x _ (ih x hx))
  simp only [any_not_shape] at h53
  rw [callI_eq]
  by_cases hk : (ps.length : Int) = 1
  · have hk2 : ps.length = 1 := by omega
    simp [body1_eq _ _ (gp 173) g173, c173, a173, enc, eq58, encs_len, h53, hk, shape, kindOK, hk2]
    repeat' split
    all_goals (try simp_all)
    all_goals (try omega)
  · have hk2 : ¬ ps.length = 1 := by omega
    simp [body1_eq _ _ (gp 173) g173, c173, a173, enc, eq58, encs_len, hk, shape, kindOK, hk2]
theorem b40_4 (x y : Int) (ps : List Pi) (hl : ps.length ≤ 9223372036854775807) (ih : ∀ p ∈ ps, callI G 173 [enc p] [] = some (.b (shape p), [])) : callI G 173 [enc (.mk 4 x y ps)] [] = some (.b (shape (.mk 4 x y ps)), []) := by
  have h53 := eq53 200 (fun p => !shape p) ps hl (fun x hx => eq61 x _ (ih x hx))
  simp only [any_not_shape] at h53
  rw [callI_eq]
  by_cases hk : (ps.length : Int) = 2
  · have hk2 : ps.length = 2 := by omega
    simp [body1_eq _ _ (gp 173) g173, c173, a173, enc, eq58, encs_len, h53, hk, shape, kindOK, hk2]
    repeat' split
    all_goals (try simp_all)
    all_goals (try omega)
  · have hk2 : ¬ ps.length = 2 := by omega
    simp [body1_eq _ _ (gp 173) g173, c173, a173, enc, eq58, encs_len, hk, shape, kindOK, hk2]
theorem b40_5 (x y : Int) (ps : List Pi) (hl : ps.length ≤ 9223372036854775807) (ih : ∀ p ∈ ps, callI G 173 [enc p] [] = some (.b (shape p), [])) : callI G 173 [enc (.mk 5 x y ps)] [] = some (.b (shape (.mk 5 x y ps)), []) := by
  have h53 := eq53 200 (fun p => !shape p) ps hl (fun x hx => eq61 x _ (ih x hx))
  simp only [any_not_shape] at h53
  rw [callI_eq]
  by_cases hk : (ps.length : Int) = 2
  · have hk2 : ps.length = 2 := by omega
    simp [body1_eq _ _ (gp 173) g173, c173, a173, enc, eq58, encs_len, h53, hk, shape, kindOK, hk2]
    repeat' split
    all_goals (try simp_all)
    all_goals (try omega)
  · have hk2 : ¬ ps.length = 2 := by omega
    simp [body1_eq _ _ (gp 173) g173, c173, a173, enc, eq58, encs_len, hk, shape, kindOK, hk2]
theorem b40_6 (x y : Int) (ps : List Pi) (hl : ps.length ≤ 9223372036854775807) (ih : ∀ p ∈ ps, callI G 173 [enc p] [] = some (.b (shape p), [])) : callI G 173 [enc (.mk 6 x y ps)] [] = some (.b (shape (.mk 6 x y ps)), []) := by
  have h53 := eq53 200 (fun p => !shape p) ps hl (fun x hx => eq61 x _ (ih x hx))
  simp only [any_not_shape] at h53
  rw [callI_eq]
  by_cases hk : (ps.length : Int) = 1
  · have hk2 : ps.length = 1 := by omega
    simp [body1_eq _ _ (gp 173) g173, c173, a173, enc, eq58, encs_len, h53, hk, shape, kindOK, hk2]
    have hy : (!decide (y < 0) && !decide (3 ≤ y)) = (nm y && decide (y < 3)) := by
      unfold nm
      by_cases h1 : y < 0
      · have : ¬ 0 ≤ y := by omega
        simp [h1, this]
      · by_cases h2 : y < 3
        · have a1 : 0 ≤ y := by omega
          have a2 : y ≤ 29 := by omega
          have a3 : ¬ 3 ≤ y := by omega
          simp [h1, h2, a1, a2, a3]
        · have a3 : 3 ≤ y := by omega
          simp [h2, a3]
    rw [hy]; simp only [Bool.and_assoc]
  · have hk2 : ¬ ps.length = 1 := by omega
    simp [body1_eq _ _ (gp 173) g173, c173, a173, enc, eq58, encs_len, hk, shape, kindOK, hk2]
theorem b40_7 (x y : Int) (ps : List Pi) (hl : ps.length ≤ 9223372036854775807) (ih : ∀ p ∈ ps, callI G 173 [enc p] [] = some (.b (shape p), [])) : callI G 173 [enc (.mk 7 x y ps)] [] = some (.b (shape (.mk 7 x y ps)), []) := by
  have h53 := eq53 200 (fun p => !shape p) ps hl (fun x hx => eq61 x _ (ih x hx))
  simp only [any_not_shape] at h53
  rw [callI_eq]
  by_cases hk : (ps.length : Int) = 1
  · have hk2 : ps.length = 1 := by omega
    simp [body1_eq _ _ (gp 173) g173, c173, a173, enc, eq58, encs_len, h53, hk, shape, kindOK, hk2]
    repeat' split
    all_goals (try simp_all)
    all_goals (try omega)
  · have hk2 : ¬ ps.length = 1 := by omega
    simp [body1_eq _ _ (gp 173) g173, c173, a173, enc, eq58, encs_len, hk, shape, kindOK, hk2]
theorem b40_d (o x y : Int) (ps : List Pi) (h : ¬ o = 0 ∧ ¬ o = 1 ∧ ¬ o = 2 ∧ ¬ o = 3 ∧ ¬ o = 4 ∧ ¬ o = 5 ∧ ¬ o = 6 ∧ ¬ o = 7) : callI G 173 [enc (.mk o x y ps)] [] = some (.b (shape (.mk o x y ps)), []) := by
  obtain ⟨h0, h1, h2, h3, h4, h5, h6, h7⟩ := h
  rw [callI_eq]
  simp [body1_eq _ _ (gp 173) g173, c173, a173, enc, eq58, shape, kindOK, h0, h1, h2, h3, h4, h5, h6, h7]
mutual
theorem eq40 : ∀ p : Pi, Fit p → callI G 173 [enc p] [] = some (.b (shape p), [])
  | .mk o x y ps, hf => by
    have ih := eq40s ps hf.2
    by_cases h0 : o = 0
    · rw [h0]; exact b40_0 x y ps hf.1 ih
    by_cases h1 : o = 1
    · rw [h1]; exact b40_1 x y ps hf.1 ih
    by_cases h2 : o = 2
    · rw [h2]; exact b40_2 x y ps hf.1 ih
    by_cases h3 : o = 3
    · rw [h3]; exact b40_3 x y ps hf.1 ih
    by_cases h4 : o = 4
    · rw [h4]; exact b40_4 x y ps hf.1 ih
    by_cases h5 : o = 5
    · rw [h5]; exact b40_5 x y ps hf.1 ih
    by_cases h6 : o = 6
    · rw [h6]; exact b40_6 x y ps hf.1 ih
    by_cases h7 : o = 7
    · rw [h7]; exact b40_7 x y ps hf.1 ih
    exact b40_d o x y ps ⟨h0, h1, h2, h3, h4, h5, h6, h7⟩
theorem eq40s : ∀ (ps : List Pi), Fits ps → ∀ p ∈ ps, callI G 173 [enc p] [] = some (.b (shape p), [])
  | [], _, p, h => by cases h
  | q :: ps, hf, p, h => by
    rcases List.mem_cons.1 h with h | h
    · rw [h]; exact eq40 q hf.1
    · exact eq40s ps hf.2 p h
end
theorem eq12 (p : Pi) (hf : Fit p) : callI G 158 [enc p] [] = some (.b (decide (pn p 14 ≤ 14) && shape p), []) := by
  have h := eq39 p hf 14 (by omega) (by omega)
  have h2 := eq40 p hf
  rw [callI_eq]
  obtain ⟨o, x, y, ps⟩ := p
  simp only [enc] at h h2
  simp [body1_eq _ _ (gp 158) g158, c158, a158, enc, h, h2]
end Go.Am
end
section
set_option maxRecDepth 10000
set_option linter.unusedSimpArgs false
set_option linter.unusedVariables false
namespace Go.Am
open Go.Proofs
theorem loop41 (rest : List Pi) (ih : ∀ x ∈ rest, callI G 137 [enc x, enc x] [] = some (.b true, [])) :
    ∀ (done : List Pi), (done ++ rest).length ≤ 9223372036854775807 →
      loopI G [0, 1, 5] [] c82l0 ⟨[(0, .sl false 4 (encs (done ++ rest))), (1, .sl false 4 (encs (done ++ rest))), (5, .i done.length)], [], []⟩ =
        some (.exit 0, ⟨[(0, .sl false 4 (encs (done ++ rest))), (1, .sl false 4 (encs (done ++ rest))), (5, .i (done ++ rest).length), (14, .b false)], [], []⟩) := by
  induction rest with
  | nil =>
    intro done h
    rw [loopI_eq]
    simp [r82l0, b82l0, encs_len]
  | cons x rest ih2 =>
    intro done h
    rw [loopI_eq]
    have hat := encs_at done x rest
    have hlt2 : (done.length : Int) < (done.length : Int) + ((rest.length : Int) + 1) := by omega
    have hw : IntKind.i64.wrap ((done.length : Int) + 1) = (done.length : Int) + 1 := wr (by simp at h; omega)
    have hc := ih x List.mem_cons_self
    have hn := ih2 (fun y hy => ih y (List.mem_cons_of_mem _ hy)) (done ++ [x]) (by simpa using h)
    obtain ⟨o', a', b', ps⟩ := x
    simp only [enc] at hc hat
    simp [r82l0, b82l0, encs_len, hat, hlt2, hc, hw]
    simpa [Int.add_assoc] using hn
mutual
theorem eq13 : ∀ p : Pi, Fit p → callI G 137 [enc p, enc p] [] = some (.b true, [])
  | .mk o x y ps, hf => by
    have h41 : callI G 82 [.sl false 4 (encs ps), .sl false 4 (encs ps)] [] = some (.b true, []) := by
      have hl := loop41 ps (eq13s ps hf.2) [] (by simpa using hf.1)
      simp only [List.nil_append, List.length_nil, show ((0 : Nat) : Int) = 0 from rfl] at hl
      rw [callI_eq]
      simp [body1_eq _ _ (gp 82) g82, c82, a82, hl]
    rw [callI_eq]
    simp [body1_eq _ _ (gp 137) g137, c137, a137, enc, h41]
theorem eq13s : ∀ (ps : List Pi), Fits ps → ∀ p ∈ ps, callI G 137 [enc p, enc p] [] = some (.b true, [])
  | [], _, p, h => by cases h
  | q :: ps, hf, p, h => by
    rcases List.mem_cons.1 h with h | h
    · rw [h]; exact eq13 q hf.1
    · exact eq13s ps hf.2 p h
end
/-! #### the plain law -/
/-! How many nodes there are. -/
mutual
def cnt : Pi → Int
  | .mk _ _ _ ps => 1 + cnts ps
def cnts : List Pi → Int
  | [] => 0
  | p :: ps => cnt p + cnts ps
end
mutual
theorem cnt_pos : ∀ p : Pi, 1 ≤ cnt p
  | .mk _ _ _ ps => by have := cnts_pos ps; simp only [cnt]; omega
theorem cnts_pos : ∀ ps : List Pi, 0 ≤ cnts ps
  | [] => by simp [cnts]
  | p :: ps => by have h1 := cnt_pos p; have h2 := cnts_pos ps; simp only [cnts]; omega
end
mutual
theorem pn_cnt : ∀ (p : Pi) (m : Int), 0 ≤ m → (cnt p ≤ m → pn p m = cnt p) ∧ (m < cnt p → pn p m = m + 1)
  | .mk _ _ _ ps, m, h => by
    have := pnL_cnt ps 1 m h (by omega) (by omega)
    simp only [pn, cnt]
    exact this
theorem pnL_cnt : ∀ (ps : List Pi) (n m : Int), 0 ≤ m → 1 ≤ n → n ≤ m + 1 → (n + cnts ps ≤ m → pnL ps n m = n + cnts ps) ∧ (m < n + cnts ps → pnL ps n m = m + 1)
  | [], n, m, h, h1, h2 => by simp only [pnL, cnts]; omega
  | p :: ps, n, m, h, h1, h2 => by
    have hp := cnt_pos p
    have hps := cnts_pos ps
    simp only [pnL, cnts]
    split
    · omega
    · have := pn_cnt p (m - n) (by omega)
      have hb := pn_le p (m - n) (by omega)
      have h3 := pnL_cnt ps (n + pn p (m - n)) m h (by omega) (by omega)
      by_cases hc : cnt p ≤ m - n
      · rw [this.1 hc] at h3 ⊢
        constructor
        · intro h4; rw [h3.1 (by omega)]; omega
        · intro h4; exact h3.2 (by omega)
      · rw [this.2 (by omega)] at h3 ⊢
        constructor
        · intro h4; omega
        · intro h4; exact h3.2 (by omega)
end
mutual
theorem nodes_cnt : ∀ p : Pi, nodes p = if shape p = true then (if cnt p < 1000 then cnt p else 1000) else 0
  | .mk o x y ps => by
    rcases hk : kindOK o x y with _ | ⟨ok, k⟩
    · have e1 : nodes (.mk o x y ps) = 0 := by simp [nodes, hk]
      have e2 : shape (.mk o x y ps) = false := by simp [shape, hk]
      simp [e1, e2]
    · have e1 : nodes (.mk o x y ps) = if ok = true ∧ ps.length = k then nodesL ps 1 else 0 := by simp [nodes, hk]
      have e2 : shape (.mk o x y ps) = (ok && (decide (ps.length = k) && shapes ps)) := by simp [shape, hk]
      have hL := nodesL_cnt ps 1 (by omega) (by omega)
      rw [e1, hL]
      by_cases h1 : ok = true <;> by_cases h2 : ps.length = k <;> by_cases h3 : shapes ps = true <;> simp [e2, h1, h2, h3, cnt] <;> (by_cases h4 : 1 + cnts ps < 1000 <;> simp [h4])
theorem nodesL_cnt : ∀ (ps : List Pi) (n : Int), 1 ≤ n → n ≤ 1000 → nodesL ps n = if shapes ps = true then (if n + cnts ps < 1000 then n + cnts ps else 1000) else 0
  | [], n, h, h1 => by
    simp only [nodesL, shapes, cnts]
    simp
    omega
  | p :: ps, n, h, h1 => by
    have hp := nodes_cnt p
    have hc := cnt_pos p
    have hcs := cnts_pos ps
    have hC : cnts (p :: ps) = cnt p + cnts ps := rfl
    simp only [nodesL]
    generalize cnts (p :: ps) = C at hC ⊢
    by_cases hs : shape p = true
    · rw [hs, if_pos rfl] at hp
      have hz : ¬ nodes p = 0 := by rw [hp]; split <;> omega
      rw [if_neg hz, nodesL_cnt ps _ (by rw [hp]; split <;> split <;> omega) (by split <;> omega)]
      by_cases hss : shapes ps = true
      · have e : shapes (p :: ps) = true := by simp [shapes, hs, hss]
        rw [if_pos hss, if_pos e, hp]
        by_cases a1 : cnt p < 1000
        · simp only [a1, if_true]
          by_cases a2 : n + cnt p < 1000
          · simp only [a2, if_true]; split <;> split <;> omega
          · simp only [a2, if_false]; split <;> split <;> omega
        · have a2 : ¬ n + 1000 < 1000 := by omega
          simp only [a1, if_false, a2]; split <;> split <;> omega
      · have e : ¬ shapes (p :: ps) = true := by simp [shapes, hss]
        rw [if_neg hss, if_neg e]
    · have e : ¬ shapes (p :: ps) = true := by simp [shapes, hs]
      rw [if_neg hs] at hp
      rw [if_pos hp, if_neg e]
end
theorem plain_ok (p : Pi) : (decide (1 ≤ nodes p) && decide (nodes p ≤ 14)) = (decide (pn p 14 ≤ 14) && shape p) := by
  have h1 := nodes_cnt p
  have h2 := pn_cnt p 14 (by omega)
  have h3 := cnt_pos p
  by_cases hs : shape p = true
  · rw [if_pos hs] at h1
    rw [h1, hs]
    by_cases hc : cnt p ≤ 14
    · rw [h2.1 hc]
      have a1 : cnt p < 1000 := by omega
      simp [hc, a1, h3]
    · rw [h2.2 (by omega)]
      have a1 : ¬ (if cnt p < 1000 then cnt p else 1000) ≤ 14 := by split <;> omega
      simp [a1]
  · have hs2 : shape p = false := by simpa using hs
    rw [if_neg hs] at h1
    simp [h1, hs2]
end Go.Am
end
section
set_option maxRecDepth 10000
set_option linter.unusedSimpArgs false
set_option linter.unusedVariables false
namespace Go.Am
open Go.Proofs
theorem encs_of : ∀ css : List (List PV), (∀ cs ∈ css, ∃ p, PV.agg cs = enc p ∧ Fit p) → ∃ ps : List Pi, css.map PV.agg = encs ps ∧ Fits ps ∧ ps.length = css.length
  | [], _ => ⟨[], rfl, trivial, rfl⟩
  | cs :: css, h => by
    obtain ⟨p, h1, h2⟩ := h cs List.mem_cons_self
    obtain ⟨ps, h3, h4, h5⟩ := encs_of css (fun c hc => h c (List.mem_cons_of_mem _ hc))
    exact ⟨p :: ps, by simp only [List.map_cons, encs, h1, h3], ⟨h2, h4⟩, by simp [h5]⟩
theorem ty_pi : ∀ n x, Ty Try.prog n 131 x → ∃ p, PV.agg x = enc p ∧ Fit p
  | 0, _, h => h.elim
  | 1, x, h => by
    simp only [Ty, Try.underlying131, TyF] at h
    simp at h
  | n + 2, x, h => by
    have ih := ty_pi n
    unfold Ty at h
    simp only [Try.underlying131] at h
    simp only [TyF, Ty, Try.underlying3, Try.underlying43] at h
    obtain ⟨_, _, rfl, ⟨o, rfl, _⟩, _, _, rfl, ⟨u, rfl, _⟩, _, _, rfl, ⟨v, rfl, _⟩, _, _, rfl, ⟨css, rfl, hl, hc⟩, rfl⟩ := h
    obtain ⟨ps, h1, h2, h3⟩ := encs_of css (fun cs hcs => ih cs (hc cs hcs))
    have hm : css.map (mkE Try.prog 131) = encs ps := by
      rw [← h1]
      refine List.map_congr_left fun cs _ => ?_
      simp [mkE, isAg, Try.underlying131]
    exact ⟨.mk o u v ps, by simp [enc, hm, show Try.prog.cellsOf 131 = 4 from by kernel_rfl], by rw [h3]; exact hl, h2⟩
end Go.Am
end
section
set_option maxRecDepth 10000
set_option linter.unusedSimpArgs false
set_option linter.unusedVariables false
namespace Go.Am
open Go.Proofs
def ints : List Int → List PV
  | [] => []
  | x :: xs => .i x :: ints xs
theorem ints_len : ∀ xs : List Int, (ints xs).length = xs.length
  | [] => rfl
  | _ :: xs => by simp [ints, ints_len xs]
theorem ints_app : ∀ a b : List Int, ints (a ++ b) = ints a ++ ints b
  | [], _ => rfl
  | _ :: a, b => by simp [ints, ints_app a b]
theorem ints_at (a : List Int) (x : Int) (b : List Int) : nth (ints (a ++ x :: b)) a.length = some (.i x) := by
  unfold nth
  rw [ints_app, List.getElem?_append_right (by simp [ints_len])]
  simp [ints_len, ints]
theorem fals_ints : ∀ xs : List Int, fals (ints xs) = ints xs
  | [] => rfl
  | x :: xs => by simp [ints, fals_ints xs]
@[simp] theorem noShares_ints : ∀ xs : List Int, noShares (ints xs) = true
  | [] => rfl
  | x :: xs => by simp [ints, noShares_ints xs]
@[simp] theorem plains_ints : ∀ xs : List Int, plains (ints xs) = true
  | [] => rfl
  | x :: xs => by simp [ints, plains_ints xs]
theorem irow_at (a : List Int) (m : Nat) (z : PV) : nth (ints a ++ z :: List.replicate m z) a.length = some z := by
  unfold nth
  rw [List.getElem?_append_right (by simp [ints_len])]
  simp [ints_len]
theorem irow_set (a : List Int) (m : Nat) (z y : PV) : (ints a ++ z :: List.replicate m z).set a.length y = ints a ++ y :: List.replicate m z := by
  rw [List.set_append_right _ _ (by simp [ints_len])]
  simp [ints_len]
theorem ints_set : ∀ (l : List Int) (i : Nat) (v : Int), (ints l).set i (.i v) = ints (l.set i v)
  | [], _, _ => rfl
  | x :: l, 0, v => rfl
  | x :: l, i + 1, v => by simp [ints, ints_set l i v]
/-! laws.toIntS -/
theorem loopToIntS (rest : List Int) :
    ∀ (done : List Int), (done ++ rest).length ≤ 9223372036854775807 →
      loopI G [0, 3, 4] [7] c29l0 ⟨[(0, .sl false 1 (ints (done ++ rest))), (3, .own (0, 7) (done ++ rest).length), (4, .i done.length)], [(7, .row 1 (ints done ++ List.replicate rest.length (.i 0)))], []⟩ =
        some (.exit 0, ⟨[(0, .sl false 1 (ints (done ++ rest))), (3, .own (0, 7) (done ++ rest).length), (4, .i (done ++ rest).length), (11, .b false)], [(7, .row 1 (ints (done ++ rest)))], []⟩) := by
  induction rest with
  | nil =>
    intro done h
    rw [loopI_eq]
    simp [r29l0, b29l0, ints_len]
  | cons x rest ih2 =>
    intro done h
    rw [loopI_eq]
    have hat := ints_at done x rest
    have hlt : (done.length : Int) < (done.length : Int) + ((rest.length : Int) + 1) := by omega
    have hw : IntKind.i64.wrap ((done.length : Int) + 1) = (done.length : Int) + 1 := wr (by simp at h; omega)
    have hn := ih2 (done ++ [x]) (by simpa using h)
    simp [r29l0, b29l0, ints_len, hat, hlt, hw, List.replicate_succ, irow_at, irow_set]
    simpa [ints_app, ints, unAgg, Int.add_assoc] using hn
theorem eqToIntS (xs : List Int) (hl : xs.length ≤ 4294967296) : callI G 29 [.sl false 1 (ints xs)] [] = some (.sl true 1 (ints xs), []) := by
  rw [callI_eq]
  have hlp := loopToIntS xs [] (by simp; omega)
  simp only [List.nil_append, List.length_nil, ints, show ((0 : Nat) : Int) = 0 from rfl] at hlp
  have h4 : (xs.length : Int) ≤ 4294967296 := by omega
  simp [body1_eq _ _ (gp 29) g29, c29, a29, ints_len, hl, h4, hlp]
/-! laws.eqIntS: of the same list -/
theorem loopEqIntS (rest : List Int) :
    ∀ (done : List Int), (done ++ rest).length ≤ 9223372036854775807 →
      loopI G [0, 1, 5] [] c32l0 ⟨[(0, .sl false 1 (ints (done ++ rest))), (1, .sl false 1 (ints (done ++ rest))), (5, .i done.length)], [], []⟩ =
        some (.exit 0, ⟨[(0, .sl false 1 (ints (done ++ rest))), (1, .sl false 1 (ints (done ++ rest))), (5, .i (done ++ rest).length), (14, .b false)], [], []⟩) := by
  induction rest with
  | nil =>
    intro done h
    rw [loopI_eq]
    simp [r32l0, b32l0, ints_len]
  | cons x rest ih2 =>
    intro done h
    rw [loopI_eq]
    have hat := ints_at done x rest
    have hlt2 : (done.length : Int) < (done.length : Int) + ((rest.length : Int) + 1) := by omega
    have hw : IntKind.i64.wrap ((done.length : Int) + 1) = (done.length : Int) + 1 := wr (by simp at h; omega)
    have hn := ih2 (done ++ [x]) (by simpa using h)
    simp [r32l0, b32l0, ints_len, hat, hlt2, hw]
    simpa [Int.add_assoc] using hn
theorem eqEqIntS (xs : List Int) (hl : xs.length ≤ 9223372036854775807) : callI G 32 [.sl false 1 (ints xs), .sl false 1 (ints xs)] [] = some (.b true, []) := by
  have hl := loopEqIntS xs [] (by simpa using hl)
  simp only [List.nil_append, List.length_nil, show ((0 : Nat) : Int) = 0 from rfl] at hl
  rw [callI_eq]
  simp [body1_eq _ _ (gp 32) g32, c32, a32, hl]
end Go.Am
end
section
set_option maxRecDepth 10000
set_option linter.unusedSimpArgs false
set_option linter.unusedVariables false
namespace Go.Am
open Go.Proofs
/-! #### lists of booleans -/
def bls : List Bool → List PV
  | [] => []
  | b :: bs => .b b :: bls bs
@[simp] theorem bls_len : ∀ xs : List Bool, (bls xs).length = xs.length
  | [] => rfl
  | _ :: xs => by simp [bls, bls_len xs]
theorem bls_app : ∀ a b : List Bool, bls (a ++ b) = bls a ++ bls b
  | [], _ => rfl
  | _ :: a, b => by simp [bls, bls_app a b]
theorem bls_at (a : List Bool) (x : Bool) (b : List Bool) (n : Nat) (h : n = a.length) : (bls (a ++ x :: b))[n]? = some (.b x) := by
  subst h
  rw [bls_app, List.getElem?_append_right (by simp)]
  simp [bls]
theorem bls_set : ∀ (a : List Bool) (n : Nat) (y : Bool), (bls a).set n (.b y) = bls (a.set n y)
  | [], _, _ => rfl
  | b :: a, 0, y => rfl
  | b :: a, n + 1, y => by simp [bls, bls_set a n y]
@[simp] theorem plains_bls : ∀ a : List Bool, plains (bls a) = true
  | [] => rfl
  | b :: a => by simp [bls, plains_bls a]
@[simp] theorem knowns_bls (g : Nat → Bool) (n : Nat) : ∀ a : List Bool, knowns g n (bls a) = true
  | [] => rfl
  | b :: a => by simp [bls, knowns_bls g n a]
@[simp] theorem allc_bls : ∀ a : List Bool, (bls a).all cellP = true
  | [] => rfl
  | b :: a => by simp only [bls, List.all_cons, allc_bls a]; rfl
@[simp] theorem noRefs_bls : ∀ a : List Bool, noRefs (bls a) = true
  | [] => rfl
  | b :: a => by simp [bls, noRefs_bls a]
@[simp] theorem noShares_bls : ∀ a : List Bool, noShares (bls a) = true
  | [] => rfl
  | b :: a => by simp [bls, noShares_bls a]
@[simp] theorem atLvls_bls (n : Nat) : ∀ a : List Bool, atLvls n (bls a) = false
  | [] => rfl
  | b :: a => by simp [bls, atLvls_bls n a]
@[simp] theorem upTos_bls (n : Nat) : ∀ a : List Bool, upTos n (bls a) = true
  | [] => rfl
  | b :: a => by simp [bls, upTos_bls n a]
@[simp] theorem expos_bls (n : Nat) (g) : ∀ a : List Bool, expos n g (bls a) = some (bls a, [])
  | [] => rfl
  | b :: a => by simp [bls, expos_bls n g a]
@[simp] theorem impos_bls (n d : Nat) : ∀ (a : List Bool) (q : Nat), impos n d (bls a) q = (bls a, q, [])
  | [], _ => rfl
  | b :: a, q => by simp [bls, impos_bls n d a q]
@[simp] theorem snaps_bls (g) : ∀ a : List Bool, snaps g (bls a) = some (bls a)
  | [] => rfl
  | b :: a => by simp [bls, snaps_bls g a]
@[simp] theorem rowIds_bls (g) : ∀ a : List Bool, rowIds g (bls a) = []
  | [] => rfl
  | b :: a => by simp [bls, rowIds_bls g a]
/-! #### what a term binds and uses -/
def bnd (o x y : Int) : Int := if o = 2 then y else if o = 6 then x else -1
def usesL (o x y : Int) : List Int := if o = 1 ∨ o = 7 then [x, y] else if o = 2 then [x] else []
def usB (us : List Int) (n : Int) : Bool := us.any (fun u => decide (u = n))
def usesV (o x y : Int) : PV := if o = 1 ∨ o = 7 then .sl true 1 [.i x, .i y] else if o = 2 then .sl true 1 [.i x] else .nils
theorem eqBindsI (o x y : Int) (ps : List Pi) : callI G 174 [enc (.mk o x y ps)] [] = some (.i (bnd o x y), []) := by
  rw [callI_eq]
  by_cases h : o = 2 <;> by_cases h2 : o = 6 <;> simp [body1_eq _ _ (gp 174) g174, c174, a174, enc, h, h2, bnd]
theorem eqBindsS (o x y : Int) (ps : List Pi) : callI G 157 [enc (.mk o x y ps)] [] = some (.i (bnd o x y), []) := by
  rw [callI_eq]
  by_cases h : o = 2 <;> by_cases h2 : o = 6 <;> simp [body1_eq _ _ (gp 157) g157, c157, a157, enc, h, h2, bnd]
theorem eqUsesI (o x y : Int) (ps : List Pi) : callI G 175 [enc (.mk o x y ps)] [] = some (usesV o x y, []) := by
  rw [callI_eq]
  by_cases h : o = 1 <;> by_cases h2 : o = 7 <;> by_cases h3 : o = 2 <;> simp [body1_eq _ _ (gp 175) g175, c175, a175, enc, h, h2, h3, usesV]
theorem eqUsesS (o x y : Int) (ps : List Pi) (n : Int) : callI G 156 [enc (.mk o x y ps), .i n] [] = some (.b (usB (usesL o x y) n), []) := by
  rw [callI_eq]
  by_cases h : o = 1 <;> by_cases h2 : o = 7 <;> by_cases h3 : o = 2 <;> simp [body1_eq _ _ (gp 156) g156, c156, a156, enc, h, h2, h3, usesL, usB]
/-! #### impl.free -/
def orL : List Bool → List Bool → List Bool
  | a :: r, b :: bs => (a || b) :: orL r bs
  | r, _ => r
theorem orL_len : ∀ a b : List Bool, (orL a b).length = a.length
  | [], _ => by simp [orL]
  | _ :: _, [] => by simp [orL]
  | a :: r, b :: bs => by simp [orL, orL_len r bs]
def bset (b : Int) (bs : List Bool) : List Bool := if 0 ≤ b then bs.set b.toNat false else bs
def usets : List Int → List Bool → List Bool
  | [], bs => bs
  | u :: us, bs => usets us (bs.set u.toNat true)
theorem usets_len : ∀ (us : List Int) (bs : List Bool), (usets us bs).length = bs.length
  | [], _ => rfl
  | u :: us, bs => by simp [usets, usets_len us]
mutual
def fre : Pi → List Bool
  | .mk o x y ps => usets (usesL o x y) (bset (bnd o x y) (freL ps (List.replicate 30 false)))
def freL : List Pi → List Bool → List Bool
  | [], acc => acc
  | p :: ps, acc => freL ps (orL acc (fre p))
end
theorem freL_len : ∀ (ps : List Pi) (acc : List Bool), (freL ps acc).length = acc.length
  | [], _ => rfl
  | p :: ps, acc => by simp [freL, freL_len ps, orL_len]
theorem bset_len (b : Int) (bs : List Bool) : (bset b bs).length = bs.length := by unfold bset; split <;> simp
theorem fre_len : ∀ p : Pi, (fre p).length = 30
  | .mk o x y ps => by simp [fre, usets_len, bset_len, freL_len]
abbrev Z30 : List PV := [.b false, .b false, .b false, .b false, .b false, .b false, .b false, .b false, .b false, .b false, .b false, .b false, .b false, .b false, .b false, .b false, .b false, .b false, .b false, .b false, .b false, .b false, .b false, .b false, .b false, .b false, .b false, .b false, .b false, .b false]
theorem z30 : bls (List.replicate 30 false) = Z30 := rfl
theorem loopFre0 (T : List PV) (hT : T.all cellP = true) (hk : ∀ g n, knowns g n T = true) (S : PV) (hS : ∀ g n, known g n S = true) (N I : Int) :
    ∀ (br cr bd cd : List Bool), bd.length = cd.length → br.length = cr.length → bd.length + br.length = 30 → ∀ i : Int, i = bd.length →
      loopI G [1, 2, 3, 13, 14, 15, 20, 21] [1, 2, 3] c159l0 ⟨[(1, .ref (0, 1) 1 0 0), (2, .ref (0, 2) 1 0 0), (3, .ref (0, 3) 1 0 0), (13, S), (14, .i N), (15, .i I), (20, .agg (bls (cd ++ cr))), (21, .i i)], [(1, .box T), (2, .box Z30), (3, .box (bls (bd ++ br)))], []⟩ =
        some (.exit 2, ⟨[(1, .ref (0, 1) 1 0 0), (2, .ref (0, 2) 1 0 0), (3, .ref (0, 3) 1 0 0), (13, S), (14, .i N), (15, .i I), (20, .agg (bls (cd ++ cr))), (21, .i 30), (22, .b false)], [(1, .box T), (2, .box Z30), (3, .box (bls (bd ++ orL br cr)))], []⟩)
  | [], cr, bd, cd, h1, h2, h3, i, hi => by
    rw [loopI_eq]
    have h4 : cr = [] := by cases cr with | nil => rfl | cons _ _ => simp at h2
    have h5 : i = 30 := by simp at h3; omega
    subst h4 h5
    simp [r159l0, b159l0, orL, hk, hS]
  | b :: br, cr, bd, cd, h1, h2, h3, i, hi => by
    rw [loopI_eq]
    rcases cr with _ | ⟨c, cr⟩
    · simp at h2
    have hlt : i < 30 := by simp at h3; omega
    have hge : 0 ≤ i := by omega
    have hb1 := bls_at bd b br i.toNat (by omega)
    have hc1 := bls_at cd c cr i.toNat (by omega)
    have hs1 := fun y => bls_set (bd ++ b :: br) i.toNat y
    have hs2 : ∀ y, (bd ++ b :: br).set i.toNat y = bd ++ y :: br := by
      intro y
      rw [show i.toNat = bd.length by omega, List.set_append_right _ _ (Nat.le_refl _)]
      simp
    have hw : IntKind.i64.wrap (i + 1) = i + 1 := wr (by omega)
    have hl2 : i.toNat + 1 ≤ bd.length + (br.length + 1) := by omega
    have hn := loopFre0 T hT hk S hS N I br cr (bd ++ [b || c]) (cd ++ [c]) (by simp [h1]) (by simpa using h2) (by simp at h3 ⊢; omega) (i + 1) (by simp; omega)
    cases b with
    | true =>
      simp [r159l0, b159l0, hk, hS, hlt, hge, hb1, hc1, hs1, hs2, hw, hl2]
      simpa [orL] using hn
    | false =>
      simp [r159l0, b159l0, hk, hS, hlt, hge, hb1, hc1, hs1, hs2, hw, hl2]
      simpa [orL] using hn
end Go.Am
end
section
set_option maxRecDepth 10000
set_option linter.unusedSimpArgs false
set_option linter.unusedVariables false
namespace Go.Am
open Go.Proofs
theorem loopFre1 (o x y : Int) (rest : List Pi) (ih : ∀ p ∈ rest, callI G 159 [enc p] [] = some (.agg (bls (fre p)), [])) :
    ∀ (done : List Pi) (acc : List Bool), acc.length = 30 → (done ++ rest).length ≤ 9223372036854775807 →
      loopI G [1, 2, 3, 13, 14, 15] [1, 2, 3] c159l1 ⟨[(1, .ref (0, 1) 1 0 0), (2, .ref (0, 2) 1 0 0), (3, .ref (0, 3) 1 0 0), (13, .sl false 4 (encs (done ++ rest))), (14, .i (done ++ rest).length), (15, .i done.length)], [(1, .box [.i o, .i x, .i y, .sl false 4 (encs (done ++ rest))]), (2, .box Z30), (3, .box (bls acc))], []⟩ =
        some (.exit 0, ⟨[(1, .ref (0, 1) 1 0 0), (2, .ref (0, 2) 1 0 0), (3, .ref (0, 3) 1 0 0), (13, .sl false 4 (encs (done ++ rest))), (14, .i (done ++ rest).length), (15, .i (done ++ rest).length), (16, .b false)], [(1, .box [.i o, .i x, .i y, .sl false 4 (encs (done ++ rest))]), (2, .box Z30), (3, .box (bls (freL rest acc)))], []⟩) := by
  induction rest with
  | nil =>
    intro done acc ha h
    rw [loopI_eq]
    simp [r159l1, b159l1, encs_len, freL]
  | cons p rest ih2 =>
    intro done acc ha h
    rw [loopI_eq]
    have hat := encs_at done p rest
    have hlt2 : (done.length : Int) < (done.length : Int) + ((rest.length : Int) + 1) := by omega
    have hw : IntKind.i64.wrap ((done.length : Int) + 1) = (done.length : Int) + 1 := wr (by simp at h; omega)
    have hc := ih p List.mem_cons_self
    have hl0 := fun I => loopFre0 [.i o, .i x, .i y, .sl false 4 (encs (done ++ p :: rest))] rfl (by intro g n; simp) (.sl false 4 (encs (done ++ p :: rest))) (by intro g n; simp) (done ++ p :: rest).length I acc (fre p) [] [] rfl (by rw [ha, fre_len]) (by simp [ha]) 0 rfl
    have hn := ih2 (fun q hq => ih q (List.mem_cons_of_mem _ hq)) (done ++ [p]) (orL acc (fre p)) (by rw [orL_len, ha]) (by simpa using h)
    obtain ⟨o', a', b', ps⟩ := p
    simp only [enc] at hc hat
    simp only [List.nil_append, List.length_append, List.length_cons, Int.natCast_add, show ((1 : Nat) : Int) = 1 from rfl] at hl0
    simp [r159l1, b159l1, encs_len, hat, hlt2, hw, hc, hl0]
    simpa [freL, Int.add_assoc] using hn
theorem loopFre2 (rest : List Int) (hr : ∀ u ∈ rest, 0 ≤ u ∧ u < 30) :
    ∀ (done : List Int) (acc : List Bool), acc.length = 30 → (done ++ rest).length ≤ 9223372036854775807 →
      loopI G [2, 3, 42, 43, 44] [2, 3, 42] c159l2 ⟨[(2, .ref (0, 2) 1 0 0), (3, .ref (0, 3) 1 0 0), (42, .own (0, 42) (done ++ rest).length), (43, .i (done ++ rest).length), (44, .i done.length)], [(2, .box Z30), (3, .box (bls acc)), (42, .row 1 (ints (done ++ rest)))], []⟩ =
        some (.exit 4, ⟨[(2, .ref (0, 2) 1 0 0), (3, .ref (0, 3) 1 0 0), (42, .own (0, 42) (done ++ rest).length), (43, .i (done ++ rest).length), (44, .i (done ++ rest).length), (45, .b false)], [(2, .box Z30), (3, .box (bls (usets rest acc))), (42, .row 1 (ints (done ++ rest)))], []⟩) := by
  induction rest with
  | nil =>
    intro done acc ha h
    rw [loopI_eq]
    simp [r159l2, b159l2, ints_len, usets]
  | cons u rest ih2 =>
    intro done acc ha h
    rw [loopI_eq]
    have hat := ints_at done u rest
    have hlt2 : (done.length : Int) < (done.length : Int) + ((rest.length : Int) + 1) := by omega
    have hw : IntKind.i64.wrap ((done.length : Int) + 1) = (done.length : Int) + 1 := wr (by simp at h; omega)
    obtain ⟨hu0, hu1⟩ := hr u List.mem_cons_self
    have hl2 : u.toNat + 1 ≤ 30 := by omega
    have hs1 := fun y => bls_set acc u.toNat y
    have hn := ih2 (fun q hq => hr q (List.mem_cons_of_mem _ hq)) (done ++ [u]) (acc.set u.toNat true) (by simp [ha]) (by simpa using h)
    simp [r159l2, b159l2, ints_len, hat, hlt2, hw, hu0, hu1, hl2, ha, hs1]
    simpa [usets, Int.add_assoc] using hn
/-- The names of a term are names. -/
def NmOK (o x y : Int) : Prop := (∀ u ∈ usesL o x y, 0 ≤ u ∧ u < 30) ∧ bnd o x y < 30
theorem nm_iff (k : Int) : nm k = true ↔ 0 ≤ k ∧ k < 30 := by
  simp only [nm, Bool.and_eq_true, decide_eq_true_eq]
  constructor <;> intro h <;> omega
theorem nmOK {o x y : Int} {k : Nat} (hk : kindOK o x y = some (true, k)) : NmOK o x y := by
  unfold kindOK at hk
  by_cases h0 : o = 0
  · subst h0; simp [NmOK, usesL, bnd]
  by_cases h3 : o = 3
  · subst h3; simp [NmOK, usesL, bnd]
  by_cases h4 : o = 4 ∨ o = 5
  · rcases h4 with h | h <;> subst h <;> simp [NmOK, usesL, bnd]
  by_cases h6 : o = 6
  · subst h6
    simp [nm_iff] at hk
    simp [NmOK, usesL, bnd]; omega
  by_cases h1 : o = 1 ∨ o = 2 ∨ o = 7
  · rw [if_neg h0, if_neg h3, if_neg h4, if_neg h6, if_pos h1] at hk
    simp [nm_iff] at hk
    rcases h1 with h | h | h <;> subst h <;> simp [NmOK, usesL, bnd] <;> omega
  · rw [if_neg h0, if_neg h3, if_neg h4, if_neg h6, if_neg h1] at hk
    cases hk
theorem bset_box (b : Int) (acc : List Bool) (h : 0 ≤ b) : (bls acc).set b.toNat (.b false) = bls (bset b acc) := by
  rw [bls_set]; simp [bset, h]
theorem putC_full : ∀ (vs pre old : List PV), old.length = vs.length → putC (pre ++ old) pre.length vs = pre ++ vs
  | [], pre, old, h => by
    have : old = [] := List.eq_nil_of_length_eq_zero (by simpa using h)
    simp [putC, this]
  | v :: vs, pre, old, h => by
    rcases old with _ | ⟨u, old⟩
    · simp at h
    have := putC_full vs (pre ++ [v]) old (by simpa using h)
    simp only [putC]
    rw [List.set_append_right _ _ (Nat.le_refl _)]
    simpa using this
theorem putC_all (vs old : List PV) (h : old.length = vs.length) : putC old 0 vs = vs := putC_full vs [] old h
theorem loopFre2n (acc : List Bool) :
      loopI G [2, 3, 42, 43, 44] [2, 3, 42] c159l2 ⟨[(2, .ref (0, 2) 1 0 0), (3, .ref (0, 3) 1 0 0), (42, .nils), (43, .i 0), (44, .i 0)], [(2, .box Z30), (3, .box (bls acc))], []⟩ =
        some (.exit 4, ⟨[(2, .ref (0, 2) 1 0 0), (3, .ref (0, 3) 1 0 0), (42, .nils), (43, .i 0), (44, .i 0), (45, .b false)], [(2, .box Z30), (3, .box (bls acc))], []⟩) := by
  rw [loopI_eq]
  simp [r159l2, b159l2]
theorem b47 (o x y : Int) (ps : List Pi) (hl : ps.length ≤ 9223372036854775807) (hn : NmOK o x y) (ih : ∀ p ∈ ps, callI G 159 [enc p] [] = some (.agg (bls (fre p)), [])) : callI G 159 [enc (.mk o x y ps)] [] = some (.agg (bls (fre (.mk o x y ps))), []) := by
  have hl1 := loopFre1 o x y ps ih [] (List.replicate 30 false) (by simp) (by simpa using hl)
  rw [z30] at hl1
  simp only [List.nil_append, List.length_nil, show ((0 : Nat) : Int) = 0 from rfl] at hl1
  have hb := eqBindsI o x y ps
  have hu := eqUsesI o x y ps
  have hlen2 : (freL ps (List.replicate 30 false)).length = 30 := by simp [freL_len]
  have htk : ∀ l : List Bool, l.length = 30 → (bls l).take 30 = bls l := fun l h => List.take_of_length_le (by simp [h])
  have hput : ∀ l : List Bool, l.length = 30 → putC Z30 0 (bls l) = bls l := fun l h => putC_all _ _ (by simp [h])
  simp only [enc] at hb hu
  have hfre : fre (.mk o x y ps) = usets (usesL o x y) (bset (bnd o x y) (freL ps (List.replicate 30 false))) := rfl
  have hB30 := hn.2
  have hB1 := bset_box (bnd o x y) (freL ps (List.replicate 30 false))
  have hB2 : ¬ 0 ≤ bnd o x y → bset (bnd o x y) (freL ps (List.replicate 30 false)) = freL ps (List.replicate 30 false) := fun h => by simp [bset, h]
  have hBl : ∀ B, (bset B (freL ps (List.replicate 30 false))).length = 30 := by simp [bset_len, freL_len]
  have hl2 := loopFre2 (usesL o x y) hn.1 [] (bset (bnd o x y) (freL ps (List.replicate 30 false))) (hBl _) (by unfold usesL; split <;> (try split) <;> simp)
  simp only [List.nil_append, List.length_nil, show ((0 : Nat) : Int) = 0 from rfl] at hl2
  have hlen3 := fre_len (.mk o x y ps)
  rw [hfre] at hlen3 ⊢
  have hBl := hBl (bnd o x y)
  generalize freL ps (List.replicate 30 false) = FL at *
  generalize hBB : bnd o x y = B at *
  rw [callI_eq]
  by_cases hB : 0 ≤ B
  · have hBn : B.toNat + 1 ≤ 30 := by omega
    have hB1 := hB1 hB
    generalize hBS : bset B FL = BS at *
    by_cases h17 : o = 1 ∨ o = 7
    · simp only [usesL, usesV, h17, if_true, ints, List.length_cons, List.length_nil, Nat.zero_add, Nat.reduceAdd, show ((2 : Nat) : Int) = 2 from rfl] at hl2 hu hlen3 ⊢
      simp [body1_eq _ _ (gp 159) g159, c159, a159, enc, encs_len, hl1, hb, hB, hB30, hBn, hB1, hlen2, hu, hl2, hBl, htk, hput, hlen3]
    · by_cases h2 : o = 2
      · have hU : usesL o x y = [x] := by simp [usesL, h2]
        have hV : usesV o x y = .sl true 1 [.i x] := by simp [usesV, h2]
        simp only [hU, hV, ints, List.length_cons, List.length_nil, Nat.zero_add, show ((1 : Nat) : Int) = 1 from rfl] at hl2 hu hlen3 ⊢
        simp [body1_eq _ _ (gp 159) g159, c159, a159, enc, encs_len, hl1, hb, hB, hB30, hBn, hB1, hlen2, hu, hl2, hBl, htk, hput, hlen3]
      · have hl3 := loopFre2n BS
        simp only [usesL, usesV, h17, h2, if_false] at hu hlen3 ⊢
        simp [body1_eq _ _ (gp 159) g159, c159, a159, enc, encs_len, hl1, hb, hB, hB30, hBn, hB1, hlen2, hu, hl3, hBl, htk, hput, hlen3, usets]
  · have e2 := hB2 hB
    rw [e2] at hl2 hlen3 ⊢
    by_cases h17 : o = 1 ∨ o = 7
    · simp only [usesL, usesV, h17, if_true, ints, List.length_cons, List.length_nil, Nat.zero_add, Nat.reduceAdd, show ((2 : Nat) : Int) = 2 from rfl] at hl2 hu hlen3 ⊢
      simp [body1_eq _ _ (gp 159) g159, c159, a159, enc, encs_len, hl1, hb, hB, hlen2, hu, hl2, htk, hput, hlen3]
    · by_cases h2 : o = 2
      · have hU : usesL o x y = [x] := by simp [usesL, h2]
        have hV : usesV o x y = .sl true 1 [.i x] := by simp [usesV, h2]
        simp only [hU, hV, ints, List.length_cons, List.length_nil, Nat.zero_add, show ((1 : Nat) : Int) = 1 from rfl] at hl2 hu hlen3 ⊢
        simp [body1_eq _ _ (gp 159) g159, c159, a159, enc, encs_len, hl1, hb, hB, hlen2, hu, hl2, htk, hput, hlen3]
      · have hl3 := loopFre2n FL
        simp only [usesL, usesV, h17, h2, if_false] at hu hlen3 ⊢
        simp [body1_eq _ _ (gp 159) g159, c159, a159, enc, encs_len, hl1, hb, hB, hlen2, hu, hl3, htk, hput, hlen3, usets]
mutual
theorem eq47 : ∀ p : Pi, Fit p → shape p = true → callI G 159 [enc p] [] = some (.agg (bls (fre p)), [])
  | .mk o x y ps, hf, hs => by
    simp only [shape] at hs
    rcases hk : kindOK o x y with _ | ⟨ok, k⟩
    · simp [hk] at hs
    simp only [hk, Bool.and_eq_true, decide_eq_true_eq] at hs
    obtain ⟨h1, h2, h3⟩ := hs
    subst h1
    exact b47 o x y ps hf.1 (nmOK hk) (eq47s ps hf.2 h3)
theorem eq47s : ∀ ps : List Pi, Fits ps → shapes ps = true → ∀ p ∈ ps, callI G 159 [enc p] [] = some (.agg (bls (fre p)), [])
  | [], _, _, p, h => by cases h
  | q :: ps, hf, hs, p, h => by
    simp only [shapes, Bool.and_eq_true] at hs
    rcases List.mem_cons.1 h with h | h
    · rw [h]; exact eq47 q hf.1 hs.1
    · exact eq47s ps hf.2 hs.2 p h
end
end Go.Am
end
section
set_option maxRecDepth 10000
set_option linter.unusedSimpArgs false
set_option linter.unusedVariables false
namespace Go.Am
open Go.Proofs
mutual
def fr : Pi → Int → Bool
  | .mk o x y ps, n => usB (usesL o x y) n || (decide (¬ bnd o x y = n) && frs ps n)
def frs : List Pi → Int → Bool
  | [], _ => false
  | p :: ps, n => fr p n || frs ps n
end
theorem loop46 (o x y n : Int) (hb : ¬ bnd o x y = n) (rest : List Pi) (ih : ∀ p ∈ rest, callI G 129 [enc p, .i n] [] = some (.b (fr p n), [])) :
    ∀ (done : List Pi), (done ++ rest).length ≤ 9223372036854775807 →
      ∃ r, loopI G [1, 2, 5] [2] c129l0 ⟨[(1, .i n), (2, .ref (0, 2) 1 0 0), (5, .i done.length)], [(2, .box [.i o, .i x, .i y, .sl false 4 (encs (done ++ rest))])], []⟩ = some r ∧
        ((frs rest n = true ∧ r = (.ret, ⟨[(4, .b true)], [], []⟩)) ∨ (frs rest n = false ∧ r = (.exit 0, ⟨[(1, .i n), (2, .ref (0, 2) 1 0 0), (5, .i (done ++ rest).length), (19, .b false)], [(2, .box [.i o, .i x, .i y, .sl false 4 (encs (done ++ rest))])], []⟩))) := by
  induction rest with
  | nil =>
    intro done h
    rw [loopI_eq]
    simp [r129l0, b129l0, encs_len, frs]
  | cons p rest ih2 =>
    intro done h
    rw [loopI_eq]
    have hat := encs_at done p rest
    have hlt2 : (done.length : Int) < (done.length : Int) + ((rest.length : Int) + 1) := by omega
    have hw : IntKind.i64.wrap ((done.length : Int) + 1) = (done.length : Int) + 1 := wr (by simp at h; omega)
    have hc := ih p List.mem_cons_self
    have hbb := eqBindsS o x y (done ++ p :: rest)
    simp only [enc] at hbb
    by_cases hs : fr p n = true
    · obtain ⟨o', a', b', ps⟩ := p
      simp only [enc] at hat hc
      simp [r129l0, b129l0, encs_len, hat, hlt2, hc, hw, hs, hbb, hb, frs]
    · have hs2 : fr p n = false := by simpa using hs
      have hn := ih2 (fun y hy => ih y (List.mem_cons_of_mem _ hy)) (done ++ [p]) (by simpa using h)
      obtain ⟨o', a', b', ps⟩ := p
      simp only [enc] at hc hat
      simp [r129l0, b129l0, encs_len, hat, hlt2, hc, hw, hs2, hbb, hb]
      simpa [hs2, frs, Int.add_assoc] using hn
theorem b46 (o x y n : Int) (ps : List Pi) (hl : ps.length ≤ 9223372036854775807) (ih : ∀ p ∈ ps, callI G 129 [enc p, .i n] [] = some (.b (fr p n), [])) : callI G 129 [enc (.mk o x y ps), .i n] [] = some (.b (fr (.mk o x y ps) n), []) := by
  have hu := eqUsesS o x y ps n
  have hbb := eqBindsS o x y ps
  simp only [enc] at hu hbb
  rw [callI_eq]
  by_cases h1 : usB (usesL o x y) n = true
  · simp [body1_eq _ _ (gp 129) g129, c129, a129, enc, hu, h1, fr]
  · have h1 : usB (usesL o x y) n = false := by simpa using h1
    by_cases hb : bnd o x y = n
    · have hx : ∃ t, loopI G [1, 2, 5] [2] c129l0 ⟨[(1, .i n), (2, .ref (0, 2) 1 0 0), (5, .i 0)], [(2, .box [.i o, .i x, .i y, .sl false 4 (encs ps)])], []⟩ = some (.exit 0, ⟨[(1, .i n), (2, .ref (0, 2) 1 0 0), (5, .i 0), (19, .b false)], [(2, .box [.i o, .i x, .i y, .sl false 4 (encs ps)])], []⟩) ∧ t = (0 : Nat) := by
        refine ⟨0, ?_, rfl⟩
        rw [loopI_eq]
        by_cases hz : ps.length = 0
        · simp [r129l0, b129l0, encs_len, hbb, hb, hz]
        · have : 0 < ps.length := by omega
          simp [r129l0, b129l0, encs_len, hbb, hb, this]
      obtain ⟨_, hx, _⟩ := hx
      simp [body1_eq _ _ (gp 129) g129, c129, a129, enc, hu, h1, fr, hx, hb]
    · obtain ⟨r, hlp, hr⟩ := loop46 o x y n hb ps ih [] (by simpa using hl)
      simp only [List.nil_append, List.length_nil, show ((0 : Nat) : Int) = 0 from rfl] at hlp hr
      rcases hr with ⟨h2, hr⟩ | ⟨h2, hr⟩ <;> simp [body1_eq _ _ (gp 129) g129, c129, a129, enc, hu, h1, fr, hlp, hb, hr, h2]
mutual
theorem eq46 : ∀ p : Pi, Fit p → ∀ n, callI G 129 [enc p, .i n] [] = some (.b (fr p n), [])
  | .mk o x y ps, hf, n => b46 o x y n ps hf.1 (fun p hp => eq46s ps hf.2 p hp n)
theorem eq46s : ∀ ps : List Pi, Fits ps → ∀ p ∈ ps, ∀ n, callI G 129 [enc p, .i n] [] = some (.b (fr p n), [])
  | [], _, p, h, _ => by cases h
  | q :: ps, hf, p, h, n => by
    rcases List.mem_cons.1 h with h | h
    · rw [h]; exact eq46 q hf.1 n
    · exact eq46s ps hf.2 p h n
end
/-! the same names are free -/
def at30 (bs : List Bool) (k : Int) : Bool := bs.getD k.toNat false
theorem orL_getD : ∀ (a b : List Bool) (k : Nat), a.length = b.length → (orL a b).getD k false = (a.getD k false || b.getD k false)
  | [], [], _, _ => by simp [orL]
  | a :: r, b :: bs, 0, _ => by simp [orL]
  | a :: r, b :: bs, k + 1, h => by simpa [orL] using orL_getD r bs k (by simpa using h)
  | [], _ :: _, _, h => by simp at h
  | _ :: _, [], _, h => by simp at h
theorem set_getD (l : List Bool) (i k : Nat) (v : Bool) (h : i < l.length) : (l.set i v).getD k false = if i = k then v else l.getD k false := by
  simp only [List.getD_eq_getElem?_getD, List.getElem?_set]
  split
  · simp [h]
  · rfl
theorem usets_getD : ∀ (us : List Int) (bs : List Bool) (k : Int), bs.length = 30 → 0 ≤ k → (∀ u ∈ us, 0 ≤ u ∧ u < 30) → at30 (usets us bs) k = (usB us k || at30 bs k)
  | [], bs, k, _, _, _ => by simp [usets, usB]
  | u :: us, bs, k, h, hk, hu => by
    have h1 := hu u List.mem_cons_self
    simp only [usets]
    rw [usets_getD us _ k (by simp [h]) hk (fun v hv => hu v (List.mem_cons_of_mem _ hv))]
    simp only [at30, usB, List.any_cons]
    rw [set_getD _ _ _ _ (by omega)]
    by_cases e : u = k
    · simp [e]
    · have : ¬ u.toNat = k.toNat := by omega
      simp [e, this]
theorem bset_getD (b : Int) (bs : List Bool) (k : Int) (h : bs.length = 30) (hk : 0 ≤ k) (hb : b < 30) : at30 (bset b bs) k = (decide (¬ b = k) && at30 bs k) := by
  unfold bset at30
  by_cases h0 : 0 ≤ b
  · rw [if_pos h0, set_getD _ _ _ _ (by omega)]
    by_cases e : b = k
    · simp [e]
    · have : ¬ b.toNat = k.toNat := by omega
      simp [e, this]
  · have : ¬ b = k := by omega
    simp [h0, this]
theorem rep_getD (n k : Nat) : (List.replicate n false).getD k false = false := by
  simp only [List.getD_eq_getElem?_getD, List.getElem?_replicate]
  split <;> rfl
mutual
theorem fre_fr : ∀ (p : Pi), shape p = true → ∀ k : Int, 0 ≤ k → at30 (fre p) k = fr p k
  | .mk o x y ps, hs, k, hk => by
    simp only [shape] at hs
    rcases hko : kindOK o x y with _ | ⟨ok, m⟩
    · simp [hko] at hs
    simp only [hko, Bool.and_eq_true, decide_eq_true_eq] at hs
    obtain ⟨h1, h2, h3⟩ := hs
    subst h1
    have hn := nmOK hko
    have hL := freL_fr ps h3 (List.replicate 30 false) k hk (by simp)
    have e0 : at30 (List.replicate 30 false) k = false := rep_getD 30 k.toNat
    simp only [fre, fr]
    rw [usets_getD _ _ k (by simp [bset_len, freL_len]) hk hn.1, bset_getD _ _ k (by simp [freL_len]) hk hn.2, hL, e0, Bool.false_or]
theorem freL_fr : ∀ (ps : List Pi), shapes ps = true → ∀ (acc : List Bool) (k : Int), 0 ≤ k → acc.length = 30 → at30 (freL ps acc) k = (at30 acc k || frs ps k)
  | [], _, acc, k, _, _ => by simp [freL, frs]
  | p :: ps, hs, acc, k, hk, ha => by
    simp only [shapes, Bool.and_eq_true] at hs
    have h1 := fre_fr p hs.1 k hk
    simp only [freL, frs]
    rw [freL_fr ps hs.2 _ k hk (by rw [orL_len, ha])]
    have : at30 (orL acc (fre p)) k = (at30 acc k || at30 (fre p) k) := orL_getD _ _ _ (by rw [ha, fre_len])
    rw [this, h1, Bool.or_assoc]
end
end Go.Am
end
section
set_option maxRecDepth 10000
set_option linter.unusedSimpArgs false
set_option linter.unusedVariables false
namespace Go.Am
open Go.Proofs
abbrev encPool (ss : List Int) (ms : List Pi) : PV := .agg [.sl false 1 (ints ss), .sl false 4 (encs ms)]
abbrev encPoolU (ss : List Int) (ms : List Pi) : PV := .agg [.sl true 1 (ints ss), .sl true 4 (encUs ms)]
def szI (n l : Int) : Int := if l - n < 0 then -1 else l - n
def szPool (ss : List Int) (ms : List Pi) (l : Int) : Int :=
  if szI ss.length l < 0 then -1 else if szI ss.length l - ms.length < 0 then -1 else if szL ms (szI ss.length l - ms.length) < 0 then -1 else szL ms (szI ss.length l - ms.length)
theorem eqSzIntS (ss : List Int) (l : Int) (h0 : 0 ≤ l) (h1 : l ≤ 1048576) (hl : ss.length ≤ 9223372036854775807) : callI G 70 [.sl false 1 (ints ss), .i l] [] = some (.i (szI ss.length l), []) := by
  rw [callI_eq]
  have hw : IntKind.i64.wrap (l - ss.length) = l - ss.length := wr (by omega)
  by_cases h : l - ss.length < 0 <;> simp [body1_eq _ _ (gp 70) g70, c70, a70, hw, ints_len, szI, h]
theorem eqSzPool (ss : List Int) (ms : List Pi) (l : Int) (h0 : 0 ≤ l) (h1 : l ≤ 1048576) (hl : ss.length ≤ 9223372036854775807) (hm : ms.length ≤ 9223372036854775807) (hf : Fits ms) : callI G 26 [encPool ss ms, .i l] [] = some (.i (szPool ss ms l), []) := by
  have hs := eqSzIntS ss l h0 h1 hl
  rw [callI_eq]
  unfold szPool
  by_cases h : szI ss.length l < 0
  · simp [body1_eq _ _ (gp 26) g26, c26, a26, hs, h]
  · have h2 : szI ss.length l ≤ 1048576 := by unfold szI at *; split <;> omega
    have h35 := eq35 ms hm (eq9s ms hf) (szI ss.length l) (by omega) h2
    generalize szI ss.length l = s at *
    by_cases h3 : s - ms.length < 0
    · simp only [h3, if_true] at h35
      simp [body1_eq _ _ (gp 26) g26, c26, a26, hs, h, h35, h3]
    · simp only [h3, if_false] at h35
      by_cases h4 : szL ms (s - ms.length) < 0
      · simp only [h4, if_true] at h35
        simp [body1_eq _ _ (gp 26) g26, c26, a26, hs, h, h35, h3, h4]
      · simp only [h4, if_false] at h35
        simp [body1_eq _ _ (gp 26) g26, c26, a26, hs, h, h35, h3, h4]
theorem szPool_small (ss : List Int) (ms : List Pi) (l : Int) (h0 : 0 ≤ l) (h1 : l ≤ 1048576) (h : ¬ szPool ss ms l < 0) : ss.length ≤ 4294967296 ∧ ms.length ≤ 4294967296 ∧ Smalls ms := by
  have hs : szI ss.length l ≤ 1048576 ∧ (¬ szI ss.length l < 0 → ss.length ≤ 4294967296) := by
    unfold szI
    split <;> constructor <;> omega
  unfold szPool at h
  generalize szI ss.length l = s at *
  by_cases h2 : s < 0
  · simp [h2] at h
  · rw [if_neg h2] at h
    by_cases h3 : s - ms.length < 0
    · simp [h3] at h
    · rw [if_neg h3] at h
      by_cases h4 : szL ms (s - ms.length) < 0
      · simp [h4] at h
      · exact ⟨hs.2 h2, by omega, szL_small ms (s - ms.length) (by omega) (by omega) (by omega)⟩
theorem eqToPool (ss : List Int) (ms : List Pi) (h1 : ss.length ≤ 4294967296) (h2 : ms.length ≤ 4294967296) (h3 : Smalls ms) : callI G 28 [encPool ss ms] [] = some (encPoolU ss ms, []) := by
  have a1 := eqToIntS ss h1
  have a2 := eq38 ms h2 (eq11s ms h3)
  rw [callI_eq]
  simp [body1_eq _ _ (gp 28) g28, c28, a28, a1, a2, encUs_len, ints_len]
theorem eqEqPiS (ps : List Pi) (hl : ps.length ≤ 9223372036854775807) (hf : Fits ps) : callI G 82 [.sl false 4 (encs ps), .sl false 4 (encs ps)] [] = some (.b true, []) := by
  have hl := loop41 ps (eq13s ps hf) [] (by simpa using hl)
  simp only [List.nil_append, List.length_nil, show ((0 : Nat) : Int) = 0 from rfl] at hl
  rw [callI_eq]
  simp [body1_eq _ _ (gp 82) g82, c82, a82, hl]
theorem eqEqPool (ss : List Int) (ms : List Pi) (h1 : ss.length ≤ 9223372036854775807) (h2 : ms.length ≤ 9223372036854775807) (h3 : Fits ms) : callI G 31 [encPool ss ms, encPool ss ms] [] = some (.b true, []) := by
  have a1 := eqEqIntS ss h1
  have a2 := eqEqPiS ms h2 h3
  rw [callI_eq]
  simp [body1_eq _ _ (gp 31) g31, c31, a31, a1, a2]
end Go.Am
end
section
set_option maxRecDepth 10000
set_option linter.unusedSimpArgs false
set_option linter.unusedVariables false
namespace Go.Am
open Go.Proofs
/-! slices.ContainsFunc with a closure that holds references to outer frames -/
theorem loop73c (cf : Nat) (caps : List PV) (o : Stack) (F : Pi → Bool) (hnr : noRefs caps = false) (ha : atLvls o.length caps = false) (hk : ∀ g, knowns g o.length caps = true) (rest : List Pi) (ih : ∀ x ∈ rest, callI G cf (enc x :: caps) (o ++ [[]]) = some (.b (F x), o ++ [[]])) :
    ∀ (done : List Pi), (done ++ rest).length ≤ 9223372036854775807 →
      ∃ r, loopI G [0, 1, 7, 8] [] c135l0 ⟨[(0, .sl false 4 (encs (done ++ rest))), (1, .clo cf caps), (7, .i (done ++ rest).length), (8, .i done.length)], [], o⟩ = some r ∧
        ((rest.any F = true ∧ ∃ i : Int, 0 ≤ i ∧ r = (.ret, ⟨[(4, .i i)], [], o⟩)) ∨ (rest.any F = false ∧ r = (.exit 0, ⟨[(0, .sl false 4 (encs (done ++ rest))), (1, .clo cf caps), (7, .i (done ++ rest).length), (8, .i (done ++ rest).length), (9, .b false)], [], o⟩))) := by
  induction rest with
  | nil =>
    intro done h
    rw [loopI_eq]
    simp [r135l0, b135l0, encs_len, hk]
  | cons x rest ih2 =>
    intro done h
    rw [loopI_eq]
    have hat := encs_at done x rest
    have hlt2 : (done.length : Int) < (done.length : Int) + ((rest.length : Int) + 1) := by omega
    have hw : IntKind.i64.wrap ((done.length : Int) + 1) = (done.length : Int) + 1 := wr (by simp at h; omega)
    have hc := ih x List.mem_cons_self
    by_cases hs : F x = true
    · obtain ⟨o', a', b', ps⟩ := x
      simp only [enc] at hat hc
      simp [r135l0, b135l0, encs_len, hat, hlt2, hc, hw, hs, hnr, ha, hk]
    · have hs2 : F x = false := by simpa using hs
      have hn := ih2 (fun y hy => ih y (List.mem_cons_of_mem _ hy)) (done ++ [x]) (by simpa using h)
      obtain ⟨o', a', b', ps⟩ := x
      simp only [enc] at hc hat
      simp [r135l0, b135l0, encs_len, hat, hlt2, hc, hw, hs2, hnr, ha, hk]
      simpa [hs2, Int.add_assoc] using hn
theorem eq53c (cf : Nat) (caps : List PV) (o : Stack) (F : Pi → Bool) (hnr : noRefs caps = false) (ha : atLvls o.length caps = false) (hk : ∀ g, knowns g o.length caps = true) (ha2 : atLvls (o.length + 1) caps = false) (hk2 : ∀ g, knowns g (o.length + 1) caps = true) (ps : List Pi) (hl : ps.length ≤ 9223372036854775807)
    (ih : ∀ x ∈ ps, callI G cf (enc x :: caps) (o ++ [[]] ++ [[]]) = some (.b (F x), o ++ [[]] ++ [[]])) : callI G 79 [.sl false 4 (encs ps), .clo cf caps] o = some (.b (ps.any F), o) := by
  have h73 : ∃ i : Int, (decide (0 ≤ i)) = ps.any F ∧ callI G 135 [.sl false 4 (encs ps), .clo cf caps] (o ++ [[]]) = some (.i i, o ++ [[]]) := by
    obtain ⟨r, hl, hr⟩ := loop73c cf caps (o ++ [[]]) F hnr (by simpa using ha2) (by simpa using hk2) ps ih [] (by simpa using hl)
    simp only [List.nil_append, List.length_nil, show ((0 : Nat) : Int) = 0 from rfl] at hl hr
    rcases hr with ⟨h1, i, hi, hr⟩ | ⟨h1, hr⟩
    · refine ⟨i, by simp [h1, hi], ?_⟩
      rw [callI_eq]
      simp [body1_eq _ _ (gp 135) g135, c135, a135, encs_len, hl, hr, hk2]
    · refine ⟨-1, by simp [h1], ?_⟩
      rw [callI_eq]
      simp [body1_eq _ _ (gp 135) g135, c135, a135, encs_len, hl, hr, hk2]
  obtain ⟨i, hi, hc⟩ := h73
  rw [callI_eq]
  simp [body1_eq _ _ (gp 79) g79, c79, a79, hc, hi, hnr, ha, hk]
theorem fits_mem : ∀ {ps : List Pi}, Fits ps → ∀ p ∈ ps, Fit p
  | q :: ps, h, p, hp => by
    rcases List.mem_cons.1 hp with e | e
    · rw [e]; exact h.1
    · exact fits_mem h.2 p e
/-! members -/
def ok (p : Pi) : Bool := decide (pn p 14 ≤ 14) && shape p
def memB : Pi → Bool
  | .mk o x y _ => !decide (o = 0) && !decide (o = 5) && !decide (o = 6) && !(decide (o = 7) && decide (x = y))
theorem eqOkS (p : Pi) (hf : Fit p) : callI G 127 [enc p] [] = some (.b (ok p), []) := by rw [eq10 p hf, plain_ok]; rfl
theorem eqOkI (p : Pi) (hf : Fit p) : callI G 158 [enc p] [] = some (.b (ok p), []) := eq12 p hf
theorem eqMember (p : Pi) : callI G 128 [enc p] [] = some (.b (memB p), []) := by
  obtain ⟨o, x, y, ps⟩ := p
  rw [callI_eq]
  by_cases h0 : o = 0
  · subst h0; simp [body1_eq _ _ (gp 128) g128, c128, a128, enc, memB]
  by_cases h5 : o = 5
  · subst h5; simp [body1_eq _ _ (gp 128) g128, c128, a128, enc, memB]
  by_cases h6 : o = 6
  · subst h6; simp [body1_eq _ _ (gp 128) g128, c128, a128, enc, memB]
  by_cases h7 : o = 7
  · subst h7
    by_cases hx : x = y <;> simp [body1_eq _ _ (gp 128) g128, c128, a128, enc, memB, hx]
  · simp [body1_eq _ _ (gp 128) g128, c128, a128, enc, memB, h0, h5, h6, h7]
def hiL : List Bool → Int → Int → Bool
  | [], _, _ => false
  | b :: bs, k, m => (b && decide (6 + m ≤ k)) || hiL bs (k + 1) m
theorem loop55 (m : Int) (hm : 0 ≤ m ∧ m ≤ 4) : ∀ (cr cd : List Bool), cd.length + cr.length = 30 → ∀ i : Int, i = cd.length →
    ∃ r, loopI G [1, 38, 39] [] c132l0 ⟨[(1, .i m), (38, .agg (bls (cd ++ cr))), (39, .i i)], [], []⟩ = some r ∧
      ((hiL cr i m = true ∧ r = (.ret, ⟨[(4, .b false)], [], []⟩)) ∨ (hiL cr i m = false ∧ r = (.exit 0, ⟨[(1, .i m), (38, .agg (bls (cd ++ cr))), (39, .i 30), (40, .b false)], [], []⟩)))
  | [], cd, h, i, hi => by
    rw [loopI_eq]
    have : i = 30 := by simp at h; omega
    subst this
    simp [r132l0, b132l0, hiL]
  | c :: cr, cd, h, i, hi => by
    rw [loopI_eq]
    have hlt : i < 30 := by simp at h; omega
    have hge : 0 ≤ i := by omega
    have hc1 := bls_at cd c cr i.toNat (by omega)
    have hw : IntKind.i64.wrap (i + 1) = i + 1 := wr (by omega)
    have hw2 : IntKind.i64.wrap (6 + m) = 6 + m := wr (by omega)
    obtain ⟨r, hn, hr⟩ := loop55 m hm cr (cd ++ [c]) (by simp at h ⊢; omega) (i + 1) (by simp; omega)
    simp only [List.append_assoc, List.cons_append, List.nil_append] at hn hr
    cases c with
    | false =>
      refine ⟨r, ?_, ?_⟩
      · simp [r132l0, b132l0, hlt, hge, hc1, hw, hw2]
        exact hn
      · simpa [hiL] using hr
    | true =>
      by_cases h6 : 6 + m ≤ i
      · refine ⟨_, ?_, .inl ⟨by simp [hiL, h6], rfl⟩⟩
        simp [r132l0, b132l0, hlt, hge, hc1, hw, hw2, h6]
      · refine ⟨r, ?_, ?_⟩
        · simp [r132l0, b132l0, hlt, hge, hc1, hw, hw2, h6]
          exact hn
        · simpa [hiL, h6] using hr
def mok (m : Int) (p : Pi) : Bool := ok p && memB p && !hiL (fre p) 0 m
theorem eqMemberOk (p : Pi) (hf : Fit p) (m : Int) (hm : 0 ≤ m ∧ m ≤ 4) : callI G 132 [enc p, .i m] [] = some (.b (mok m p), []) := by
  have hok := eqOkI p hf
  rw [callI_eq]
  by_cases hk : ok p = true
  · have h47 := eq47 p hf (by unfold ok at hk; simp at hk; exact hk.2)
    obtain ⟨r, hlp, hr⟩ := loop55 m hm (fre p) [] (by simp [fre_len]) 0 rfl
    simp only [List.nil_append] at hlp hr
    obtain ⟨o, x, y, ps⟩ := p
    generalize hfp : fre (.mk o x y ps) = F at *
    simp only [enc] at hok h47
    by_cases h0 : o = 0
    · subst h0; simp [body1_eq _ _ (gp 132) g132, c132, a132, enc, memB, mok, hok, hk]
    by_cases h5 : o = 5
    · subst h5; simp [body1_eq _ _ (gp 132) g132, c132, a132, enc, memB, mok, hok, hk]
    by_cases h6 : o = 6
    · subst h6; simp [body1_eq _ _ (gp 132) g132, c132, a132, enc, memB, mok, hok, hk]
    by_cases h7 : o = 7
    · subst h7
      by_cases hx : x = y
      · subst hx
        simp [body1_eq _ _ (gp 132) g132, c132, a132, enc, memB, mok, hok, hk]
      · rcases hr with ⟨h8, hr⟩ | ⟨h8, hr⟩ <;> simp [body1_eq _ _ (gp 132) g132, c132, a132, enc, memB, mok, hok, hk, hx, h47, hlp, hr, hfp, h8]
    · rcases hr with ⟨h8, hr⟩ | ⟨h8, hr⟩ <;> simp [body1_eq _ _ (gp 132) g132, c132, a132, enc, memB, mok, hok, hk, h0, h5, h6, h7, h47, hlp, hr, hfp, h8]
  · have hk : ok p = false := by simpa using hk
    obtain ⟨o, x, y, ps⟩ := p
    simp only [enc] at hok
    simp [body1_eq _ _ (gp 132) g132, c132, a132, enc, mok, hok, hk]
end Go.Am
end
section
set_option maxRecDepth 10000
set_option linter.unusedSimpArgs false
set_option linter.unusedVariables false
namespace Go.Am
open Go.Proofs
def srt (s : Int) : Bool := decide (0 ≤ s) && decide (s ≤ 2)
def frF (p : Pi) : Nat → Int → Bool
  | 0, _ => false
  | k + 1, n => fr p n || frF p k (n + 1)
/-! impl.PoolOk -/
theorem eq54 (ss : List Int) (ms : List Pi) (hs : ss.length ≤ 4) (p : Pi) (hf : Fit p) (rest : Stack) :
    callI G 131 [enc p, .ref (0, 1) 1 0 0] ([(1, .box [.sl false 1 (ints ss), .sl false 4 (encs ms)])] :: rest) = some (.b (!mok ss.length p), [(1, .box [.sl false 1 (ints ss), .sl false 4 (encs ms)])] :: rest) := by
  have h := eqMemberOk p hf ss.length (by omega)
  rw [callI_eq]
  obtain ⟨o, x, y, ps⟩ := p
  simp only [enc] at h
  simp [body1_eq _ _ (gp 131) g131, c131, a131, enc, h, ints_len]
theorem loop30 (b : PV) (hb : ∀ g n, known g n b = true) (hc : cellP b = true) (S : List Int) (rest : List Int) :
    ∀ (done : List Int), (done ++ rest).length ≤ 9223372036854775807 →
      ∃ r, loopI G [1, 10, 11, 12] [1] c76l0 ⟨[(1, .ref (0, 1) 1 0 0), (10, .sl false 1 (ints (done ++ rest))), (11, .i (done ++ rest).length), (12, .i done.length)], [(1, .box [.sl false 1 (ints S), b])], []⟩ = some r ∧
        ((rest.all srt = false ∧ r = (.ret, ⟨[(2, .b false)], [], []⟩)) ∨ (rest.all srt = true ∧ r = (.exit 0, ⟨[(1, .ref (0, 1) 1 0 0), (10, .sl false 1 (ints (done ++ rest))), (11, .i (done ++ rest).length), (12, .i (done ++ rest).length), (13, .b false)], [(1, .box [.sl false 1 (ints S), b])], []⟩))) := by
  induction rest with
  | nil =>
    intro done h
    rw [loopI_eq]
    simp [r76l0, b76l0, ints_len, hb]
  | cons u rest ih2 =>
    intro done h
    rw [loopI_eq]
    have hat := ints_at done u rest
    have hlt2 : (done.length : Int) < (done.length : Int) + ((rest.length : Int) + 1) := by omega
    have hw : IntKind.i64.wrap ((done.length : Int) + 1) = (done.length : Int) + 1 := wr (by simp at h; omega)
    have hn := ih2 (done ++ [u]) (by simpa using h)
    by_cases h1 : u < 0
    · have h2 : ¬ 0 ≤ u := by omega
      simp [r76l0, b76l0, ints_len, hat, hlt2, hw, hb, h1, srt, h2]
    · by_cases h3 : 3 ≤ u
      · have h2 : ¬ u ≤ 2 := by omega
        simp [r76l0, b76l0, ints_len, hat, hlt2, hw, hb, h1, srt, h2, h3]
      · have h2 : 0 ≤ u := by omega
        have h4 : u ≤ 2 := by omega
        simp [r76l0, b76l0, ints_len, hat, hlt2, hw, hb, h1, h3]
        simpa [srt, h2, h4, Int.add_assoc] using hn
def poolI (ss : List Int) (ms : List Pi) : Bool := decide (ss.length ≤ 4) && (ss.all srt && !(ms.any fun p => !mok ss.length p))
theorem eqPoolOkI (ss : List Int) (ms : List Pi) (hl : ss.length ≤ 9223372036854775807) (hm : ms.length ≤ 9223372036854775807) (hf : Fits ms) : callI G 76 [encPool ss ms] [] = some (.b (poolI ss ms), []) := by
  rw [callI_eq]
  unfold poolI
  by_cases h4 : ss.length ≤ 4
  · have h4' : ¬ (4 : Int) < ss.length := by omega
    have h53 := eq53c 131 [.ref (0, 1) 1 0 0] [[(1, .box [.sl false 1 (ints ss), .sl false 4 (encs ms)])]] (fun p => !mok ss.length p) rfl rfl (by intro g; simp) rfl (by intro g; simp) ms hm (fun x hx => eq54 ss ms h4 x (fits_mem hf x hx) [[], []])
    obtain ⟨r, hlp, hr⟩ := loop30 (.sl false 4 (encs ms)) (by intro g n; simp) rfl ss ss [] (by simpa using hl)
    simp only [List.nil_append, List.length_nil, show ((0 : Nat) : Int) = 0 from rfl] at hlp hr
    rcases hr with ⟨h2, hr⟩ | ⟨h2, hr⟩ <;> simp [body1_eq _ _ (gp 76) g76, c76, a76, ints_len, h4, h4', hlp, hr, h2, h53]
  · have h4' : (4 : Int) < ss.length := by omega
    simp [body1_eq _ _ (gp 76) g76, c76, a76, ints_len, h4, h4']
/-! spec.PoolOk -/
theorem loop28a (b : PV) (hb : ∀ g n, known g n b = true) (rest : List Int) :
    ∀ (done : List Int), (done ++ rest).length ≤ 9223372036854775807 →
      ∃ r, loopI G [1, 3] [1] c72l0 ⟨[(1, .ref (0, 1) 1 0 0), (3, .i done.length)], [(1, .box [.sl false 1 (ints (done ++ rest)), b])], []⟩ = some r ∧
        ((rest.all srt = false ∧ r = (.ret, ⟨[(2, .b false)], [], []⟩)) ∨ (rest.all srt = true ∧ r = (.exit 0, ⟨[(1, .ref (0, 1) 1 0 0), (3, .i (done ++ rest).length), (14, .b false)], [(1, .box [.sl false 1 (ints (done ++ rest)), b])], []⟩))) := by
  induction rest with
  | nil =>
    intro done h
    rw [loopI_eq]
    simp [r72l0, b72l0, ints_len, hb]
  | cons u rest ih2 =>
    intro done h
    rw [loopI_eq]
    have hat := ints_at done u rest
    have hlt2 : (done.length : Int) < (done.length : Int) + ((rest.length : Int) + 1) := by omega
    have hw : IntKind.i64.wrap ((done.length : Int) + 1) = (done.length : Int) + 1 := wr (by simp at h; omega)
    have hn := ih2 (done ++ [u]) (by simpa using h)
    by_cases h1 : 0 ≤ u ∧ u ≤ 2
    · simp [r72l0, b72l0, ints_len, hat, hlt2, hw, hb, l6In, h1.1, h1.2]
      simpa [srt, h1.1, h1.2, Int.add_assoc] using hn
    · have h2 : (decide (0 ≤ u) && decide (u ≤ 2)) = false := by
        simp only [Bool.and_eq_false_iff, decide_eq_false_iff_not]; omega
      simp [r72l0, b72l0, ints_len, hat, hlt2, hw, hb, l6In, h2, srt]
theorem loop28b (ss : List Int) (md mr : List Pi) (p : Pi) (hf : Fit p) (hi : md.length ≤ 9223372036854775807) : ∀ (k : Nat) (n : Int), 0 ≤ n → n + k = 30 →
    ∃ r, loopI G [1, 4, 5] [1] c72l1 ⟨[(1, .ref (0, 1) 1 0 0), (4, .i md.length), (5, .i n)], [(1, .box [.sl false 1 (ints ss), .sl false 4 (encs (md ++ p :: mr))])], []⟩ = some r ∧
      ((frF p k n = true ∧ r = (.ret, ⟨[(2, .b false)], [], []⟩)) ∨ (frF p k n = false ∧ r = (.exit 4, ⟨[(1, .ref (0, 1) 1 0 0), (4, .i md.length), (5, .i 30), (52, .b false)], [(1, .box [.sl false 1 (ints ss), .sl false 4 (encs (md ++ p :: mr))])], []⟩)))
  | 0, n, h0, h => by
    have : n = 30 := by omega
    subst this
    rw [loopI_eq]
    simp [r72l1, b72l1, frF]
  | k + 1, n, h0, h => by
    have h46 := eq46 p hf n
    have hat := encs_at md p mr
    have hlt2 : (md.length : Int) < (md.length : Int) + ((mr.length : Int) + 1) := by omega
    have hlt : n < 30 := by omega
    have hw : IntKind.i64.wrap (n + 1) = n + 1 := wr (by omega)
    obtain ⟨r, hn, hr⟩ := loop28b ss md mr p hf hi k (n + 1) (by omega) (by omega)
    rw [loopI_eq]
    by_cases hfr : fr p n = true
    · obtain ⟨o, x, y, ps⟩ := p
      simp only [enc] at hat h46
      refine ⟨_, ?_, .inl ⟨by simp [frF, hfr], rfl⟩⟩
      simp [r72l1, b72l1, hlt, hat, encs_len, hlt2, h46, hfr]
    · have hfr : fr p n = false := by simpa using hfr
      obtain ⟨o, x, y, ps⟩ := p
      simp only [enc] at hat h46
      refine ⟨r, ?_, by simpa [frF, hfr] using hr⟩
      simp [r72l1, b72l1, hlt, hat, encs_len, hlt2, h46, hfr, hw]
      exact hn
def mokS (m : Int) (p : Pi) : Bool := ok p && memB p && !frF p (24 - m).toNat (6 + m)
theorem loop28c (ss : List Int) (hs : ss.length ≤ 4) (rest : List Pi) :
    ∀ (done : List Pi), Fits rest → (done ++ rest).length ≤ 9223372036854775807 →
      ∃ r, loopI G [1, 4] [1] c72l2 ⟨[(1, .ref (0, 1) 1 0 0), (4, .i done.length)], [(1, .box [.sl false 1 (ints ss), .sl false 4 (encs (done ++ rest))])], []⟩ = some r ∧
        ((rest.all (mokS ss.length) = false ∧ r = (.ret, ⟨[(2, .b false)], [], []⟩)) ∨ (rest.all (mokS ss.length) = true ∧ r = (.exit 2, ⟨[(1, .ref (0, 1) 1 0 0), (4, .i (done ++ rest).length), (28, .b false)], [(1, .box [.sl false 1 (ints ss), .sl false 4 (encs (done ++ rest))])], []⟩))) := by
  induction rest with
  | nil =>
    intro done hf h
    rw [loopI_eq]
    simp [r72l2, b72l2, encs_len]
  | cons p rest ih2 =>
    intro done hf h
    rw [loopI_eq]
    have hat := encs_at done p rest
    have hlt2 : (done.length : Int) < (done.length : Int) + ((rest.length : Int) + 1) := by omega
    have hw : IntKind.i64.wrap ((done.length : Int) + 1) = (done.length : Int) + 1 := wr (by simp at h; omega)
    have hw2 : IntKind.i64.wrap (6 + (ss.length : Int)) = 6 + (ss.length : Int) := wr (by omega)
    have hn := ih2 (done ++ [p]) hf.2 (by simpa using h)
    obtain ⟨r, hl1, hr⟩ := loop28b ss done rest p hf.1 (by simp at h; omega) (24 - (ss.length : Int)).toNat (6 + ss.length) (by omega) (by omega)
    have hok := eqOkS p hf.1
    have hme := eqMember p
    by_cases h1 : ok p = true
    · by_cases h2 : memB p = true
      · rcases hr with ⟨h3, hr⟩ | ⟨h3, hr⟩
        · have hv : mokS ss.length p = false := by unfold mokS; rw [h1, h2, h3]; rfl
          obtain ⟨o, x, y, ps⟩ := p
          simp only [enc] at hat hok hme
          simp [r72l2, b72l2, encs_len, ints_len, hat, hlt2, hw, hw2, hok, hme, h1, h2, hl1, hr, hv]
        · have hv : mokS ss.length p = true := by unfold mokS; rw [h1, h2, h3]; rfl
          obtain ⟨o, x, y, ps⟩ := p
          simp only [enc] at hat hok hme
          simp [r72l2, b72l2, encs_len, ints_len, hat, hlt2, hw, hw2, hok, hme, h1, h2, hl1, hr]
          simpa [hv, Int.add_assoc] using hn
      · have h2 : memB p = false := by simpa using h2
        have hv : mokS ss.length p = false := by unfold mokS; rw [h1, h2]; rfl
        obtain ⟨o, x, y, ps⟩ := p
        simp only [enc] at hat hok hme
        simp [r72l2, b72l2, encs_len, ints_len, hat, hlt2, hw, hw2, hok, hme, h1, h2, hv]
    · have h1 : ok p = false := by simpa using h1
      have hv : mokS ss.length p = false := by unfold mokS; rw [h1]; rfl
      obtain ⟨o, x, y, ps⟩ := p
      simp only [enc] at hat hok hme
      simp [r72l2, b72l2, encs_len, ints_len, hat, hlt2, hw, hw2, hok, hme, h1, hv]
def poolS (ss : List Int) (ms : List Pi) : Bool := decide (ss.length ≤ 4) && (ss.all srt && ms.all (mokS ss.length))
theorem eqPoolOkS (ss : List Int) (ms : List Pi) (hl : ss.length ≤ 9223372036854775807) (hm : ms.length ≤ 9223372036854775807) (hf : Fits ms) : callI G 72 [encPool ss ms] [] = some (.b (poolS ss ms), []) := by
  rw [callI_eq]
  unfold poolS
  by_cases h4 : ss.length ≤ 4
  · have h4' : ¬ (4 : Int) < ss.length := by omega
    obtain ⟨r, hlp, hr⟩ := loop28a (.sl false 4 (encs ms)) (by intro g n; simp) ss [] (by simpa using hl)
    obtain ⟨r2, hlp2, hr2⟩ := loop28c ss h4 ms [] hf (by simpa using hm)
    simp only [List.nil_append, List.length_nil, show ((0 : Nat) : Int) = 0 from rfl] at hlp hr hlp2 hr2
    rcases hr with ⟨h2, hr⟩ | ⟨h2, hr⟩
    · simp [body1_eq _ _ (gp 72) g72, c72, a72, ints_len, h4, h4', hlp, hr, h2]
    · rcases hr2 with ⟨h3, hr2⟩ | ⟨h3, hr2⟩ <;> simp [body1_eq _ _ (gp 72) g72, c72, a72, ints_len, h4, h4', hlp, hr, h2, hlp2, hr2, h3]
  · have h4' : (4 : Int) < ss.length := by omega
    simp [body1_eq _ _ (gp 72) g72, c72, a72, ints_len, h4, h4']
/-! the plain law -/
theorem hiL_frF (p : Pi) (m : Int) : ∀ (cr : List Bool) (k : Int), 0 ≤ k → 6 + m ≤ k → (∀ j : Nat, j < cr.length → cr.getD j false = fr p (k + j)) → hiL cr k m = frF p cr.length k
  | [], k, _, _, _ => rfl
  | b :: bs, k, hk, hm, h => by
    have h0 := h 0 (by simp)
    simp only [List.getD_cons_zero, show ((0 : Nat) : Int) = 0 from rfl, Int.add_zero] at h0
    have ih := hiL_frF p m bs (k + 1) (by omega) (by omega) (fun j hj => by
      have := h (j + 1) (by simp; omega)
      simp only [List.getD_cons_succ, Int.natCast_add, show ((1 : Nat) : Int) = 1 from rfl] at this
      rw [this]; congr 1; omega)
    simp only [hiL, List.length_cons, frF, ih, h0]
    simp [hm]
theorem hiL_low (p : Pi) (m : Int) (hm : 0 ≤ m ∧ m ≤ 4) : ∀ (cr : List Bool) (k : Int), 0 ≤ k → k ≤ 6 + m → k + cr.length = 30 → (∀ j : Nat, j < cr.length → cr.getD j false = fr p (k + j)) → hiL cr k m = frF p (24 - m).toNat (6 + m)
  | [], k, hk, h1, h2, h => by simp at h2; omega
  | b :: bs, k, hk, h1, h2, h => by
    by_cases e : k = 6 + m
    · subst e
      rw [hiL_frF p m (b :: bs) (6 + m) hk (Int.le_refl _) h]
      congr 1
      omega
    · have e2 : ¬ 6 + m ≤ k := by omega
      have ih := hiL_low p m hm bs (k + 1) (by omega) (by omega) (by simp at h2; omega) (fun j hj => by
        have := h (j + 1) (by simp; omega)
        simp only [List.getD_cons_succ, Int.natCast_add, show ((1 : Nat) : Int) = 1 from rfl] at this
        rw [this]; congr 1; omega)
      simp [hiL, e2, ih]
theorem mok_same (m : Int) (hm : 0 ≤ m ∧ m ≤ 4) (p : Pi) : mokS m p = mok m p := by
  unfold mok mokS
  by_cases h : ok p = true
  · have hs : shape p = true := by unfold ok at h; simp at h; exact h.2
    rw [hiL_low p m hm (fre p) 0 (by omega) (by omega) (by rw [fre_len]; rfl) (fun j hj => by
      have := fre_fr p hs j (by omega)
      simpa [at30] using this)]
  · simp [h]
theorem any_not_mok (m : Int) (hm : 0 ≤ m ∧ m ≤ 4) : ∀ ms : List Pi, ms.all (mokS m) = !(ms.any fun p => !mok m p)
  | [] => rfl
  | p :: ms => by simp [any_not_mok m hm ms, mok_same m hm p]
theorem pool_same (ss : List Int) (ms : List Pi) : poolS ss ms = poolI ss ms := by
  unfold poolS poolI
  by_cases h : ss.length ≤ 4
  · rw [any_not_mok ss.length (by omega) ms]
  · simp [h]
end Go.Am
end
section
set_option maxRecDepth 10000
set_option linter.unusedSimpArgs false
set_option linter.unusedVariables false
namespace Go.Am
open Go.Proofs
theorem ints_of : ∀ (n : Nat) (css : List (List PV)), (∀ cs ∈ css, Ty Try.prog n 3 cs) → ∃ xs : List Int, css.map (mkE Try.prog 3) = ints xs ∧ xs.length = css.length
  | _, [], _ => ⟨[], rfl, rfl⟩
  | 0, cs :: css, h => (h cs List.mem_cons_self).elim
  | n + 1, cs :: css, h => by
    have h1 := h cs List.mem_cons_self
    simp only [Ty, Try.underlying3] at h1
    obtain ⟨m, rfl, _⟩ := h1
    obtain ⟨xs, h3, h4⟩ := ints_of (n + 1) css (fun c hc => h c (List.mem_cons_of_mem _ hc))
    refine ⟨m :: xs, ?_, by simp [h4]⟩
    simp [h3, ints, mkE, isAg, Try.underlying3]
theorem ty_ints : ∀ (n : Nat) (x : PV), Ty Try.prog n 42 [x] → ∃ xs : List Int, x = .sl false 1 (ints xs) ∧ xs.length ≤ 9223372036854775807
  | 0, _, h => h.elim
  | n + 1, x, h => by
    simp only [Ty, Try.underlying42] at h
    obtain ⟨css, e, hl, hc⟩ := h
    obtain ⟨xs, h1, h2⟩ := ints_of n css hc
    rw [h1] at e
    refine ⟨xs, ?_, by rw [h2]; exact hl⟩
    have := List.cons.inj e
    rw [this.1, show Try.prog.cellsOf 3 = 1 from by kernel_rfl]
theorem ty_pis : ∀ (n : Nat) (x : PV), Ty Try.prog n 43 [x] → ∃ ps : List Pi, x = .sl false 4 (encs ps) ∧ ps.length ≤ 9223372036854775807 ∧ Fits ps
  | 0, _, h => h.elim
  | n + 1, x, h => by
    simp only [Ty, Try.underlying43] at h
    obtain ⟨css, e, hl, hc⟩ := h
    obtain ⟨ps, h1, h2, h3⟩ := encs_of css (fun cs hcs => ty_pi n cs (hc cs hcs))
    have hm : css.map (mkE Try.prog 131) = encs ps := by
      rw [← h1]
      refine List.map_congr_left fun cs _ => ?_
      simp [mkE, isAg, Try.underlying131]
    rw [hm] at e
    refine ⟨ps, ?_, by rw [h3]; exact hl, h2⟩
    have := List.cons.inj e
    rw [this.1, show Try.prog.cellsOf 131 = 4 from by kernel_rfl]
theorem one_of {n : Nat} {t : TypeId} {x : List PV} (h : Ty Try.prog n t x) (hs : (∃ e, Try.prog.underlying t = some (.slice e))) : ∃ y, x = [y] := by
  cases n with
  | zero => exact h.elim
  | succ n =>
    obtain ⟨e, he⟩ := hs
    simp only [Ty, he] at h
    obtain ⟨css, rfl, _⟩ := h
    exact ⟨_, rfl⟩
theorem ty_pool : ∀ (n : Nat) (x : List PV), Ty Try.prog n 45 x → ∃ ss ms, PV.agg x = encPool ss ms ∧ ss.length ≤ 9223372036854775807 ∧ ms.length ≤ 9223372036854775807 ∧ Fits ms
  | 0, _, h => h.elim
  | n + 1, x, h => by
    unfold Ty at h
    simp only [Try.underlying45] at h
    simp only [TyF] at h
    obtain ⟨a, _, rfl, ha, b, _, rfl, hb, rfl⟩ := h
    obtain ⟨a, rfl⟩ := one_of ha ⟨_, Try.underlying42⟩
    obtain ⟨b, rfl⟩ := one_of hb ⟨_, Try.underlying43⟩
    obtain ⟨ss, rfl, h1⟩ := ty_ints n a ha
    obtain ⟨ms, rfl, h2, h3⟩ := ty_pis n b hb
    exact ⟨ss, ms, rfl, h1, h2, h3⟩
end Go.Am
end
section
set_option maxRecDepth 10000
set_option linter.unusedSimpArgs false
set_option linter.unusedVariables false
namespace Go.Am
open Go.Proofs
mutual
/-- What a member offers. -/
def ofs : Pi → List Pi
  | .mk o x y ps => if o = 4 then ofsL ps else if o = 1 ∨ o = 2 ∨ o = 3 then [.mk o x y ps] else []
def ofsL : List Pi → List Pi
  | [] => []
  | p :: ps => ofs p ++ ofsL ps
end
/-- A row of terms, made anew. -/
def OffV (v : PV) (O : List Pi) : Prop := (v = .nils ∧ O = []) ∨ v = .sl true 4 (encs O)
mutual
theorem ofs_len : ∀ p : Pi, ((ofs p).length : Int) ≤ cnt p
  | .mk o x y ps => by
    have h1 := ofsL_len ps
    have h2 := cnts_pos ps
    simp only [ofs, cnt]
    split
    · omega
    · split
      · simp; omega
      · simp; omega
theorem ofsL_len : ∀ ps : List Pi, ((ofsL ps).length : Int) ≤ cnts ps
  | [] => by simp [ofsL, cnts]
  | p :: ps => by
    have h1 := ofs_len p
    have h2 := ofsL_len ps
    simp only [ofsL, cnts, List.length_append]
    omega
end
theorem eqOffersI : ∀ p : Pi, Fit p → shape p = true → cnt p ≤ 1000 → ∃ v, OffV v (ofs p) ∧ callI G 147 [enc p] [] = some (v, [])
  | .mk o x y ps, hf, hs, hc => by
    by_cases h4 : o = 4
    · subst h4
      obtain ⟨a, b, rfl⟩ : ∃ a b, ps = [a, b] := by
        match ps, hs with
        | [], hs => simp [shape, kindOK] at hs
        | [a], hs => simp [shape, kindOK] at hs
        | [a, b], _ => exact ⟨a, b, rfl⟩
        | a :: b :: c :: r, hs => simp [shape, kindOK] at hs
      have hsab : shape a = true ∧ shape b = true := by
        simp [shape, shapes, kindOK] at hs
        exact ⟨hs.2.1, hs.2.2⟩
      simp only [cnt, cnts] at hc
      have ca := cnt_pos a
      have cb := cnt_pos b
      obtain ⟨va, oa', ha⟩ := eqOffersI a hf.2.1 hsab.1 (by omega)
      obtain ⟨vb, ob', hb⟩ := eqOffersI b hf.2.2.1 hsab.2 (by omega)
      have la := ofs_len a
      have lb := ofs_len b
      have ea : ofs (.mk 4 x y [a, b]) = ofs a ++ ofs b := by simp [ofs, ofsL]
      rw [ea]
      refine ⟨.sl true 4 (encs (ofs a ++ ofs b)), .inr rfl, ?_⟩
      have hsum : (ofs a).length + (ofs b).length ≤ 1000 := by omega
      have hea : (encs (ofs a)).length = (ofs a).length := encs_len _
      have heb : (encs (ofs b)).length = (ofs b).length := encs_len _
      have hA9 : (ofs a).length + (ofs b).length ≤ 4294967296 := by omega
      have hB9 : (ofs b).length ≤ 4294967296 := by omega
      have hC9 : (ofs a).length ≤ 4294967296 := by omega
      obtain ⟨oa, xa, ya, pa⟩ := a
      obtain ⟨ob, xb, yb, pb⟩ := b
      simp only [enc] at ha hb
      rw [encs_app, callI_eq]
      generalize ofs (.mk oa xa ya pa) = A at *
      generalize ofs (.mk ob xb yb pb) = B at *
      rcases oa' with ⟨rfl, rfl⟩ | rfl <;> rcases ob' with ⟨rfl, rfl⟩ | rfl <;>
        simp [body1_eq _ _ (gp 147) g147, c147, a147, enc, encs, ha, hb, hea, heb, hA9, hB9, hC9]
    · by_cases h3 : o = 1 ∨ o = 2 ∨ o = 3
      · refine ⟨.sl true 4 (encs (ofs (.mk o x y ps))), .inr rfl, ?_⟩
        rcases h3 with rfl | rfl | rfl <;>
          (rw [callI_eq]; simp [body1_eq _ _ (gp 147) g147, c147, a147, enc, encs, ofs])
      · have h1 : ¬ o = 1 := fun h => h3 (.inl h)
        have h2 : ¬ o = 2 := fun h => h3 (.inr (.inl h))
        have h5 : ¬ o = 3 := fun h => h3 (.inr (.inr h))
        refine ⟨.nils, .inl ⟨rfl, by simp [ofs, h4, h1, h2, h5]⟩, ?_⟩
        rw [callI_eq]
        simp [body1_eq _ _ (gp 147) g147, c147, a147, enc, encs, ofs, h4, h1, h2, h5]
termination_by p => SizeOf.sizeOf p
theorem eqOffersS : ∀ p : Pi, Fit p → shape p = true → cnt p ≤ 1000 → ∃ v, OffV v (ofs p) ∧ callI G 114 [enc p] [] = some (v, [])
  | .mk o x y ps, hf, hs, hc => by
    by_cases h4 : o = 4
    · subst h4
      obtain ⟨a, b, rfl⟩ : ∃ a b, ps = [a, b] := by
        match ps, hs with
        | [], hs => simp [shape, kindOK] at hs
        | [a], hs => simp [shape, kindOK] at hs
        | [a, b], _ => exact ⟨a, b, rfl⟩
        | a :: b :: c :: r, hs => simp [shape, kindOK] at hs
      have hsab : shape a = true ∧ shape b = true := by
        simp [shape, shapes, kindOK] at hs
        exact ⟨hs.2.1, hs.2.2⟩
      simp only [cnt, cnts] at hc
      have ca := cnt_pos a
      have cb := cnt_pos b
      obtain ⟨va, oa', ha⟩ := eqOffersS a hf.2.1 hsab.1 (by omega)
      obtain ⟨vb, ob', hb⟩ := eqOffersS b hf.2.2.1 hsab.2 (by omega)
      have la := ofs_len a
      have lb := ofs_len b
      have ea : ofs (.mk 4 x y [a, b]) = ofs a ++ ofs b := by simp [ofs, ofsL]
      rw [ea]
      refine ⟨.sl true 4 (encs (ofs a ++ ofs b)), .inr rfl, ?_⟩
      have hsum : (ofs a).length + (ofs b).length ≤ 1000 := by omega
      have hea : (encs (ofs a)).length = (ofs a).length := encs_len _
      have heb : (encs (ofs b)).length = (ofs b).length := encs_len _
      have hA9 : (ofs a).length + (ofs b).length ≤ 4294967296 := by omega
      have hB9 : (ofs b).length ≤ 4294967296 := by omega
      have hC9 : (ofs a).length ≤ 4294967296 := by omega
      obtain ⟨oa, xa, ya, pa⟩ := a
      obtain ⟨ob, xb, yb, pb⟩ := b
      simp only [enc] at ha hb
      rw [encs_app, callI_eq]
      generalize ofs (.mk oa xa ya pa) = A at *
      generalize ofs (.mk ob xb yb pb) = B at *
      rcases oa' with ⟨rfl, rfl⟩ | rfl <;> rcases ob' with ⟨rfl, rfl⟩ | rfl <;>
        simp [body1_eq _ _ (gp 114) g114, c114, a114, enc, encs, ha, hb, hea, heb, hA9, hB9, hC9]
    · by_cases h3 : o = 1 ∨ o = 2 ∨ o = 3
      · refine ⟨.sl true 4 (encs (ofs (.mk o x y ps))), .inr rfl, ?_⟩
        rcases h3 with rfl | rfl | rfl <;>
          (rw [callI_eq]; simp [body1_eq _ _ (gp 114) g114, c114, a114, enc, encs, ofs])
      · have h1 : ¬ o = 1 := fun h => h3 (.inl h)
        have h2 : ¬ o = 2 := fun h => h3 (.inr (.inl h))
        have h5 : ¬ o = 3 := fun h => h3 (.inr (.inr h))
        refine ⟨.nils, .inl ⟨rfl, by simp [ofs, h4, h1, h2, h5]⟩, ?_⟩
        rw [callI_eq]
        simp [body1_eq _ _ (gp 114) g114, c114, a114, enc, encs, ofs, h4, h1, h2, h5]
termination_by p => SizeOf.sizeOf p
end Go.Am
end
section
set_option maxRecDepth 10000
set_option linter.unusedSimpArgs false
set_option linter.unusedVariables false
namespace Go.Am
open Go.Proofs Go.Sort Go.Shelf
theorem at_D (D : List PV) (x : PV) (E : List PV) (n : Nat) (h : n = D.length) : nth (D ++ x :: E) n = some x := by
  subst h
  simp [nth]
/-- A number. -/
def iP (x : Int) : PV := .i x
/-- Without neighbours that are the same. -/
def ddup : Int → List Int → List Int
  | _, [] => []
  | p, x :: l => if x = p then ddup p l else x :: ddup x l
def dd : List Int → List Int
  | [] => []
  | x :: l => x :: ddup x l
theorem ddup_len : ∀ (p : Int) (l : List Int), (ddup p l).length ≤ l.length
  | _, [] => Nat.le_refl _
  | p, x :: l => by
    simp only [ddup]
    split
    · have := ddup_len p l; simp; omega
    · have := ddup_len x l; simp; omega
theorem loopCp0 (id : Id) (N : Nat) (k0 : Nat) : ∀ (rest W M : List Int) (p : Int) (o : Stack), id.1 < o.length → getS o id = some (.row 1 ((W ++ (M ++ p :: rest)).map iP)) → N = W.length + M.length + 1 + rest.length → N ≤ 4611686018427387904 → ∀ k2 : Nat, 1 ≤ k2 → k0 + k2 = W.length + M.length + 1 →
    ∃ Z : List Int, Z.length = N - (W ++ ddup p rest).length ∧ loopI G [0, 3, 4, 5] [28] c149l0 ⟨[(0, .own id N), (3, .i W.length), (4, .sub id N k0), (5, .i k2)], [], o⟩ =
      some (.exit 2, ⟨[(0, .own id N), (3, .i (W ++ ddup p rest).length), (4, .sub id N k0), (5, .i (k2 + rest.length)), (32, .b false)], [], setS o id (.row 1 (((W ++ ddup p rest) ++ Z).map iP))⟩)
  | [], W, M, p, o, hid, hg, hN, hNN, k2, hk2, hk => by
    have hne : ¬ id.1 = o.length := by omega
    refine ⟨M ++ [p], by simp [ddup]; simp at hN; omega, ?_⟩
    have e2 : setS o id (.row 1 (((W ++ ddup p []) ++ (M ++ [p])).map iP)) = o := setS_same o id _ (by simpa [ddup] using hg)
    rw [e2, loopI_eq]
    have hget : ∀ r l, St.get ⟨r, l, o⟩ id = some (.row 1 ((W ++ (M ++ [p])).map iP)) := fun r l => by rw [get_low hid, hg]
    have hl : N = W.length + (M.length + 1) := by simp at hN; omega
    have hsub : N - k0 = k2 := by simp at hN; omega
    simp [-St.get, -St.set, r149l0, b149l0, hne, hget, ← hl, hsub, ddup]
  | x :: rest, W, M, p, o, hid, hg, hN, hNN, k2, hk2, hk => by
    simp only [List.length_cons] at hN
    have hne : ¬ id.1 = o.length := by omega
    have hget : ∀ r l, St.get ⟨r, l, o⟩ id = some (.row 1 ((W ++ (M ++ p :: x :: rest)).map iP)) := fun r l => by rw [get_low hid, hg]
    have hset : ∀ r l R, St.set ⟨r, l, o⟩ id R = ⟨r, l, setS o id R⟩ := fun r l R => set_low hid
    have hget2 : ∀ r l R, St.get ⟨r, l, setS o id R⟩ id = some R := fun r l R => by rw [get_low (by rw [setS_len]; exact hid), getS_setS hid]
    have hl : W.length + (M.length + (rest.length + 1 + 1)) = N := by omega
    have hlt : (k2 : Int) < ((N - k0 : Nat) : Int) := by omega
    have hlt2 : (k2 : Int) - 1 < ((N - k0 : Nat) : Int) := by omega
    have hge : (0 : Int) ≤ (k2 : Int) - 1 := by omega
    have htn : ((k2 : Int) - 1).toNat = k2 - 1 := by omega
    have hw : IntKind.i64.wrap ((k2 : Int) + 1) = (k2 : Int) + 1 := wr (by omega)
    have hw1 : IntKind.i64.wrap ((k2 : Int) - 1) = (k2 : Int) - 1 := wr (by omega)
    have hwW : IntKind.i64.wrap ((W.length : Int) + 1) = (W.length : Int) + 1 := wr (by omega)
    have hat : nth (W.map iP ++ (M.map iP ++ iP p :: iP x :: rest.map iP)) (k0 + k2) = some (iP x) := by
      have := at_D ((W ++ (M ++ [p])).map iP) (iP x) (rest.map iP) (k0 + k2) (by simp; omega)
      simpa using this
    have hat1 : nth (W.map iP ++ (M.map iP ++ iP p :: iP x :: rest.map iP)) (k0 + (k2 - 1)) = some (iP p) := by
      have := at_D ((W ++ M).map iP) (iP p) ((x :: rest).map iP) (k0 + (k2 - 1)) (by simp; omega)
      simpa using this
    have hlW : (W.length : Int) < N := by omega
    have hk1 : (1 : Int) ≤ k2 := by omega
    by_cases he : x = p
    · subst he
      obtain ⟨Z, hZ, hn⟩ := loopCp0 id N k0 rest W (M ++ [x]) x o hid (by simpa using hg) (by simp; omega) hNN (k2 + 1) (by omega) (by simp; omega)
      refine ⟨Z, by simpa [ddup] using hZ, ?_⟩
      simp only [Int.natCast_add, show ((1 : Nat) : Int) = 1 from rfl] at hn
      rw [loopI_eq]
      simp only [iP] at hat hat1
      simp [-St.get, -St.set, r149l0, b149l0, iP, hne, hget, hl, hk1, hlt, hlt2, hge, htn, hw, hw1, hat, hat1]
      simpa [ddup, Int.add_assoc, Int.add_comm 1] using hn
    · obtain ⟨M', hM', hrow⟩ : ∃ M' : List Int, M'.length = M.length ∧ (W.map iP ++ (M.map iP ++ iP p :: iP x :: rest.map iP)).set W.length (iP x) = ((W ++ [x]) ++ (M' ++ x :: rest)).map iP := by
        cases M with
        | nil =>
          refine ⟨[], rfl, ?_⟩
          rw [List.map_nil, List.nil_append, List.set_append_right _ _ (by simp)]
          simp
        | cons m M0 =>
          refine ⟨M0 ++ [p], by simp, ?_⟩
          rw [List.set_append_right _ _ (by simp)]
          simp
      have hatW : ∃ e, nth (W.map iP ++ (M.map iP ++ iP p :: iP x :: rest.map iP)) W.length = some (iP e) := by
        cases M with
        | nil => exact ⟨p, by have := at_D (W.map iP) (iP p) (iP x :: rest.map iP) W.length (by simp); simpa using this⟩
        | cons m M0 => exact ⟨m, by have := at_D (W.map iP) (iP m) (M0.map iP ++ iP p :: iP x :: rest.map iP) W.length (by simp); simpa using this⟩
      obtain ⟨e, hatW⟩ := hatW
      obtain ⟨Z, hZ, hn⟩ := loopCp0 id N k0 rest (W ++ [x]) M' x (setS o id (.row 1 (((W ++ [x]) ++ (M' ++ x :: rest)).map iP))) (by rw [setS_len]; exact hid) (by rw [getS_setS hid]) (by simp; omega) hNN (k2 + 1) (by omega) (by simp; omega)
      rw [setS_setS] at hn
      have hdd : W ++ ddup p (x :: rest) = (W ++ [x]) ++ ddup x rest := by simp [ddup, he]
      refine ⟨Z, by rw [hdd]; exact hZ, ?_⟩
      rw [hdd]
      simp only [Int.natCast_add, show ((1 : Nat) : Int) = 1 from rfl] at hn
      rw [loopI_eq]
      have hdec : decide (x = p) = false := decide_eq_false he
      simp only [iP] at hat hat1 hatW hrow
      simp [-St.get, -St.set, r149l0, b149l0, iP, hne, hget, hset, hl, hk1, hlt, hlt2, hge, htn, hw, hw1, hwW, hat, hat1, hatW, hdec, hlW, unAgg, hrow, setS_len]
      simpa [iP, Int.add_assoc, Int.add_comm 1, setS_len] using hn
theorem loopCp1 (id : Id) (N : Nat) : ∀ (rest done : List Int) (p : Int) (o : Stack), id.1 < o.length → getS o id = some (.row 1 ((done ++ p :: rest).map iP)) → N = done.length + 1 + rest.length → N ≤ 4611686018427387904 →
    (ddup p rest = rest ∧ loopI G [0, 3] [] c149l1 ⟨[(0, .own id N), (3, .i (done.length + 1))], [], o⟩ = some (.exit 0, ⟨[(0, .own id N), (3, .i N), (13, .b false)], [], o⟩)) ∨
    loopI G [0, 3] [] c149l1 ⟨[(0, .own id N), (3, .i (done.length + 1))], [], o⟩ = some (.ret, ⟨[(2, .own (o.length, 59) (done ++ p :: ddup p rest).length)], [(59, .row 1 ((done ++ p :: ddup p rest).map iP))], setS o id .dead⟩)
  | [], done, p, o, hid, hg, hN, hNN => by
    refine .inl ⟨rfl, ?_⟩
    have hl : (done.length : Int) + 1 = N := by simp at hN; omega
    have hne : ¬ id.1 = o.length := by omega
    have hget : ∀ r l, St.get ⟨r, l, o⟩ id = some (.row 1 ((done ++ [p]).map iP)) := fun r l => by rw [get_low hid, hg]
    have hln : N = done.length + 1 := by simpa using hN
    rw [hl, loopI_eq]
    simp [-St.get, -St.set, r149l1, b149l1, hne, hget, ← hln]
  | x :: rest, done, p, o, hid, hg, hN, hNN => by
    simp only [List.length_cons] at hN
    have hne : ¬ id.1 = o.length := by omega
    have hget : ∀ r l, St.get ⟨r, l, o⟩ id = some (.row 1 ((done ++ p :: x :: rest).map iP)) := fun r l => by rw [get_low hid, hg]
    have hset : ∀ r l R, St.set ⟨r, l, o⟩ id R = ⟨r, l, setS o id R⟩ := fun r l R => set_low hid
    have hget2 : ∀ r l R, St.get ⟨r, l, setS o id R⟩ id = some R := fun r l R => by rw [get_low (by rw [setS_len]; exact hid), getS_setS hid]
    have hlt : (done.length : Int) + 1 < N := by omega
    have hw : IntKind.i64.wrap ((done.length : Int) + 1 + 1) = (done.length : Int) + 1 + 1 := wr (by omega)
    have hw2 : IntKind.i64.wrap ((done.length : Int) + 2) = (done.length : Int) + 2 := wr (by omega)
    have hw1 : IntKind.i64.wrap ((done.length : Int) + 1 - 1) = (done.length : Int) := by rw [wr (by omega)]; omega
    have hw3 : IntKind.i64.wrap (done.length : Int) = (done.length : Int) := wr (by omega)
    have hlt0 : (done.length : Int) < N := by omega
    have hge0 : (0 : Int) ≤ (done.length : Int) + 1 := by omega
    have hle : (done.length : Int) + 1 ≤ N := by omega
    have hl : done.length + (rest.length + 1 + 1) = N := by omega
    have hat : nth (done.map iP ++ iP p :: iP x :: rest.map iP) (done.length + 1) = some (iP x) := by
      have := at_D ((done ++ [p]).map iP) (iP x) (rest.map iP) (done.length + 1) (by simp)
      simpa using this
    have hat1 : nth (done.map iP ++ iP p :: iP x :: rest.map iP) done.length = some (iP p) := at_D _ _ _ _ (by simp)
    by_cases he : x = p
    · subst he
      refine .inr ?_
      obtain ⟨Z, hZ, hn⟩ := loopCp0 id N (done.length + 1) rest (done ++ [x]) [] x o hid (by simpa using hg) (by simp; omega) hNN 1 (by omega) (by simp)
      obtain ⟨K, hK⟩ : ∃ K, (done ++ [x]) ++ ddup x rest = K := ⟨_, rfl⟩
      have hK2 : done ++ x :: ddup x (x :: rest) = K := by rw [← hK]; simp [ddup]
      have hdl := ddup_len x rest
      have hKl : K.length ≤ N := by rw [← hK]; simp; omega
      rw [hK] at hn hZ
      obtain ⟨o2, ho2⟩ : ∃ o2, setS o id (.row 1 ((K ++ Z).map iP)) = o2 := ⟨_, rfl⟩
      rw [ho2] at hn
      have hl2 : o2.length = o.length := by rw [← ho2, setS_len]
      have hget3 : ∀ r l, St.get ⟨r, l, o2⟩ id = some (.row 1 ((K ++ Z).map iP)) := fun r l => by rw [← ho2]; exact hget2 _ _ _
      have hset3 : ∀ r l R, St.set ⟨r, l, o2⟩ id R = ⟨r, l, setS o id R⟩ := fun r l R => by rw [← ho2, set_low (by rw [setS_len]; exact hid), setS_setS]
      have hset4 : ∀ r l R R', St.set ⟨r, l, setS o id R'⟩ id R = ⟨r, l, setS o id R⟩ := fun r l R R' => by rw [set_low (by rw [setS_len]; exact hid), setS_setS]
      have hgl : ∀ r R, St.get ⟨r, [], setS o id R⟩ (o.length, 59) = none := fun r R => by simp [St.get, setS_len, getO]
      have hsl : ∀ r R R', St.set ⟨r, [], setS o id R⟩ (o.length, 59) R' = ⟨r, [(59, R')], setS o id R⟩ := fun r R R' => by simp [St.set, setS_len, setO]
      have hKZ : K.length + Z.length = N := by omega
      have hKN : N = K.length + (N - K.length) := by omega
      have hKi : (K.length : Int) ≤ N := by omega
      rw [hK2]
      simp only [List.length_append, List.length_cons, List.length_nil, Int.natCast_add, show ((0 + 1 : Nat) : Int) = 1 from rfl, show ((1 : Nat) : Int) = 1 from rfl] at hn
      rw [loopI_eq]
      simp only [iP] at hat hat1
      simp [-St.get, -St.set, r149l1, b149l1, iP, hne, hget, hl, hge0, hle, hlt, hlt0, hw, hw1, hw2, hw3, hat, hat1, hn, hl2, hget3, hset3, hset4, hget2, hKZ, hKi, setS_len, hgl, hsl]
      exact hKN
    · rcases loopCp1 id N rest (done ++ [p]) x o hid (by simpa using hg) (by simp; omega) hNN with ⟨hd, hn⟩ | hn
      · refine .inl ⟨by simp [ddup, he, hd], ?_⟩
        simp only [List.length_append, List.length_cons, List.length_nil, Int.natCast_add, show ((0 + 1 : Nat) : Int) = 1 from rfl, show ((1 : Nat) : Int) = 1 from rfl] at hn
        have hdec : decide (x = p) = false := decide_eq_false he
        rw [loopI_eq]
        simp only [iP] at hat hat1
        simp [-St.get, -St.set, r149l1, b149l1, iP, hne, hget, hl, hge0, hle, hlt, hlt0, hw, hw1, hw2, hw3, hat, hat1, hdec]
        simpa [Int.add_assoc] using hn
      · refine .inr ?_
        simp only [List.length_append, List.length_cons, List.length_nil, Int.natCast_add, show ((0 + 1 : Nat) : Int) = 1 from rfl, show ((1 : Nat) : Int) = 1 from rfl] at hn
        have hdec : decide (x = p) = false := decide_eq_false he
        rw [loopI_eq]
        simp only [iP] at hat hat1
        simp [-St.get, -St.set, r149l1, b149l1, iP, hne, hget, hl, hge0, hle, hlt, hlt0, hw, hw1, hw2, hw3, hat, hat1, hdec]
        have hlen : done.length + 1 + ((ddup x rest).length + 1) = done.length + ((ddup x rest).length + 1 + 1) := by omega
        simpa [ddup, he, Int.add_assoc, iP, hlen] using hn
theorem get_setS_top {r : Regs} {l : Objs} {o : Stack} {id : Id} {R : OB} {d : Nat} : St.get ⟨r, l, setS o id R⟩ (o.length, d) = getO l d := by simp [St.get, setS_len]
theorem set_setS_top {r : Regs} {l : Objs} {o : Stack} {id : Id} {R R' : OB} {d : Nat} : St.set ⟨r, l, setS o id R⟩ (o.length, d) R' = ⟨r, setO l d R', setS o id R⟩ := by simp [St.set, setS_len]
theorem eqCompact (id : Id) (l : List Int) (o : Stack) (hid : id.1 < o.length) (hg : getS o id = some (.row 1 (l.map iP))) (hN : l.length ≤ 4611686018427387904) :
    (dd l = l ∧ callI G 149 [.own id l.length] o = some (.own id l.length, o)) ∨ callI G 149 [.own id l.length] o = some (.sl true 1 ((dd l).map iP), setS o id .dead) := by
  have hne : ¬ id.1 = o.length := by omega
  have hgl : ∀ r l R, St.get ⟨r, l, setS o id R⟩ (o.length, 59) = getO l 59 := fun r l R => by simp [St.get, setS_len]
  have hget : ∀ r l', St.get ⟨r, l', o⟩ id = some (.row 1 (l.map iP)) := fun r l' => by rw [get_low hid, hg]
  rw [callI_eq]
  match l, hg, hN, hget with
  | [], hg, hN, hget =>
    refine .inl ⟨rfl, ?_⟩
    simp [-St.get, -St.set, body1_eq _ _ (gp 149) g149, c149, a149, hne, hget, hid]
  | [x], hg, hN, hget =>
    refine .inl ⟨rfl, ?_⟩
    simp [-St.get, -St.set, body1_eq _ _ (gp 149) g149, c149, a149, hne, hget, hid]
  | x :: y :: l, hg, hN, hget =>
    have h2 : ¬ ((l.length : Int) + 1 + 1 < 2) := by omega
    rcases loopCp1 id (x :: y :: l).length (y :: l) [] x o hid (by simpa using hg) (by simp; omega) hN with ⟨hd, hn⟩ | hn
    · refine .inl ⟨by simp [dd, hd], ?_⟩
      simp only [List.length_cons, List.length_nil, Int.natCast_add, show ((0 : Nat) : Int) = 0 from rfl, show ((1 : Nat) : Int) = 1 from rfl, Int.zero_add] at hn
      simp [-St.get, -St.set, body1_eq _ _ (gp 149) g149, c149, a149, hne, hget, hid, h2, hn]
    · refine .inr ?_
      simp only [List.length_cons, List.length_nil, Int.natCast_add, show ((0 : Nat) : Int) = 0 from rfl, show ((1 : Nat) : Int) = 1 from rfl, Int.zero_add, List.nil_append] at hn
      simp [-St.get, -St.set, body1_eq _ _ (gp 149) g149, c149, a149, hne, hget, hid, h2, hn, dd, setS_len, hgl]
theorem eqCompactN (o : Stack) : callI G 149 [.nils] o = some (.nils, o) := by
  rw [callI_eq]
  simp [-St.get, -St.set, body1_eq _ _ (gp 149) g149, c149, a149]
end Go.Am
end
section
set_option maxRecDepth 10000
set_option linter.unusedSimpArgs false
set_option linter.unusedVariables false
namespace Go.Am
open Go.Proofs
/-- Ascending numbers. -/
def SdI (l : List Int) : Prop := l.Pairwise (· < ·)
theorem SdI_uniq : ∀ (a b : List Int), SdI a → SdI b → (∀ y, y ∈ a ↔ y ∈ b) → a = b
  | [], [], _, _, _ => rfl
  | [], y :: b, _, _, h => by have := (h y).2 List.mem_cons_self; cases this
  | x :: a, [], _, _, h => by have := (h x).1 List.mem_cons_self; cases this
  | x :: a, y :: b, ha, hb, h => by
    have ha' := List.pairwise_cons.1 ha
    have hb' := List.pairwise_cons.1 hb
    have hxy : x = y := by
      rcases List.mem_cons.1 ((h x).1 List.mem_cons_self) with e | e
      · exact e
      · rcases List.mem_cons.1 ((h y).2 List.mem_cons_self) with e' | e'
        · exact e'.symm
        · have h1 := hb'.1 x e
          have h2 := ha'.1 y e'
          omega
    subst hxy
    have : a = b := SdI_uniq a b ha'.2 hb'.2 fun y => by
      constructor
      · intro hy
        rcases List.mem_cons.1 ((h y).1 (List.mem_cons_of_mem _ hy)) with e | e
        · subst e; have := ha'.1 y hy; omega
        · exact e
      · intro hy
        rcases List.mem_cons.1 ((h y).2 (List.mem_cons_of_mem _ hy)) with e | e
        · subst e; have := hb'.1 y hy; omega
        · exact e
    rw [this]
theorem ddup_sdI : ∀ (l : List Int) (p : Int), (p :: l).Pairwise (· ≤ ·) → SdI (p :: ddup p l) ∧ ∀ y, y ∈ p :: ddup p l ↔ y ∈ p :: l
  | [], p, h => ⟨by simp [SdI, ddup], fun y => by simp [ddup]⟩
  | x :: l, p, h => by
    have h1 := List.pairwise_cons.1 h
    have h2 := List.pairwise_cons.1 h1.2
    by_cases he : x = p
    · subst he
      obtain ⟨i1, i2⟩ := ddup_sdI l x h1.2
      simp only [ddup, if_true]
      exact ⟨i1, fun y => by rw [i2 y]; simp⟩
    · obtain ⟨i1, i2⟩ := ddup_sdI l x h1.2
      simp only [ddup, if_neg he]
      have hpx : p < x := by have := h1.1 x List.mem_cons_self; omega
      refine ⟨List.pairwise_cons.2 ⟨fun y hy => ?_, i1⟩, fun y => ?_⟩
      · have hy' := (i2 y).1 hy
        rcases List.mem_cons.1 hy' with e | e
        · subst e; exact hpx
        · have := h2.1 y e; omega
      · rw [List.mem_cons, i2 y]; simp
theorem sortL_mem (l : List Int) (y : Int) : y ∈ sortL l ↔ y ∈ l := (List.mergeSort_perm l _).mem_iff
theorem sortL_len (l : List Int) : (sortL l).length = l.length := List.length_mergeSort _
theorem sortL_pw (l : List Int) : (sortL l).Pairwise (· ≤ ·) := by
  have := List.pairwise_mergeSort (le := fun x y : Int => decide (x ≤ y)) (fun a b c h1 h2 => by simp at *; omega) (fun a b => by simp; omega) l
  exact this.imp fun h => by simpa using h
theorem dd_sd (l : List Int) : SdI (dd (sortL l)) ∧ ∀ y, y ∈ dd (sortL l) ↔ y ∈ l := by
  have hp := sortL_pw l
  have hm := sortL_mem l
  cases hs : sortL l with
  | nil =>
    rw [hs] at hm
    exact ⟨by simp [dd, SdI], fun y => by rw [← hm y]; simp [dd]⟩
  | cons x r =>
    rw [hs] at hp hm
    have := ddup_sdI r x hp
    exact ⟨this.1, fun y => by rw [← hm y]; exact this.2 y⟩
/-- The names below 6 over which there are offers of a kind. -/
def bno (k : Int) : List Pi → List Int
  | [] => []
  | .mk o x _ _ :: r => if o = k ∧ x < 6 then x :: bno k r else bno k r
def bnm (k : Int) : List Pi → List Int
  | [] => []
  | m :: ms => bno k (ofs m) ++ bnm k ms
/-- Whether an offer of a kind is over a name. -/
def hasO (k n : Int) : List Pi → Bool
  | [] => false
  | .mk o x _ _ :: r => (decide (o = k) && decide (x = n)) || hasO k n r
def hasM (k n : Int) : List Pi → Bool
  | [] => false
  | m :: ms => hasO k n (ofs m) || hasM k n ms
def upF (f : Int → Bool) : Nat → Int → List Int
  | 0, _ => []
  | m + 1, n => if f n = true then n :: upF f m (n + 1) else upF f m (n + 1)
theorem upF_mem (f : Int → Bool) : ∀ (m : Nat) (n y : Int), y ∈ upF f m n ↔ n ≤ y ∧ y < n + m ∧ f y = true
  | 0, n, y => by simp [upF]; omega
  | m + 1, n, y => by
    have ih := upF_mem f m (n + 1) y
    simp only [upF]
    split
    · rename_i h
      rw [List.mem_cons, ih]
      constructor
      · rintro (rfl | ⟨a, b, c⟩)
        · exact ⟨by omega, by omega, h⟩
        · exact ⟨by omega, by omega, c⟩
      · rintro ⟨a, b, c⟩
        by_cases e : y = n
        · exact .inl e
        · exact .inr ⟨by omega, by omega, c⟩
    · rename_i h
      rw [ih]
      constructor
      · rintro ⟨a, b, c⟩
        exact ⟨by omega, by omega, c⟩
      · rintro ⟨a, b, c⟩
        refine ⟨?_, by omega, c⟩
        by_cases e : y = n
        · subst e; exact absurd c h
        · omega
theorem upF_sd (f : Int → Bool) : ∀ (m : Nat) (n : Int), SdI (upF f m n)
  | 0, n => by simp [upF, SdI]
  | m + 1, n => by
    have ih := upF_sd f m (n + 1)
    simp only [upF]
    split
    · refine List.pairwise_cons.2 ⟨fun y hy => ?_, ih⟩
      have := (upF_mem f m (n + 1) y).1 hy
      omega
    · exact ih
theorem bno_mem (k : Int) : ∀ (O : List Pi) (y : Int), y ∈ bno k O ↔ y < 6 ∧ hasO k y O = true
  | [], y => by simp [bno, hasO]
  | .mk o x a b :: r, y => by
    have ih := bno_mem k r y
    simp only [bno, hasO]
    split
    · rename_i h
      rw [List.mem_cons, ih]
      simp only [Bool.or_eq_true, Bool.and_eq_true, decide_eq_true_eq]
      constructor
      · rintro (rfl | ⟨h1, h2⟩)
        · exact ⟨h.2, .inl ⟨h.1, rfl⟩⟩
        · exact ⟨h1, .inr h2⟩
      · rintro ⟨h1, ⟨_, rfl⟩ | h2⟩
        · exact .inl rfl
        · exact .inr ⟨h1, h2⟩
    · rename_i h
      rw [ih]
      simp only [Bool.or_eq_true, Bool.and_eq_true, decide_eq_true_eq]
      constructor
      · rintro ⟨h1, h2⟩
        exact ⟨h1, .inr h2⟩
      · rintro ⟨h1, ⟨e, rfl⟩ | h2⟩
        · exact absurd ⟨e, h1⟩ h
        · exact ⟨h1, h2⟩
theorem bnm_mem (k : Int) : ∀ (ms : List Pi) (y : Int), y ∈ bnm k ms ↔ y < 6 ∧ hasM k y ms = true
  | [], y => by simp [bnm, hasM]
  | m :: ms, y => by
    simp only [bnm, hasM, List.mem_append, bno_mem, bnm_mem k ms y, Bool.or_eq_true]
    constructor
    · rintro (⟨a, b⟩ | ⟨a, b⟩)
      · exact ⟨a, .inl b⟩
      · exact ⟨a, .inr b⟩
    · rintro ⟨a, b | b⟩
      · exact .inl ⟨a, b⟩
      · exact .inr ⟨a, b⟩
mutual
/-- What is offered is a term of names. -/
theorem ofs_nm : ∀ p : Pi, shape p = true → ∀ q ∈ ofs p, ∀ o x y ps, q = Pi.mk o x y ps → (o = 1 ∨ o = 2) → 0 ≤ x
  | .mk o x y ps, hs, q, hq => by
    simp only [ofs] at hq
    split at hq
    · have hss : shapes ps = true := by
        simp only [shape] at hs
        split at hs
        · cases hs
        · simp at hs; exact hs.2.2
      exact ofsL_nm ps hss q hq
    · split at hq
      · simp only [List.mem_singleton] at hq
        subst hq
        intro o' x' y' ps' e h
        cases e
        simp only [shape, kindOK] at hs
        rcases h with rfl | rfl <;> (simp [nm] at hs; omega)
      · cases hq
theorem ofsL_nm : ∀ ps : List Pi, shapes ps = true → ∀ q ∈ ofsL ps, ∀ o x y qs, q = Pi.mk o x y qs → (o = 1 ∨ o = 2) → 0 ≤ x
  | [], _, q, hq => by cases hq
  | p :: ps, hs, q, hq => by
    simp only [shapes, Bool.and_eq_true] at hs
    rcases List.mem_append.1 hq with h | h
    · exact ofs_nm p hs.1 q h
    · exact ofsL_nm ps hs.2 q h
end
theorem hasO_nn (k n : Int) (hk : k = 1 ∨ k = 2) : ∀ O : List Pi, (∀ q ∈ O, ∀ o x y ps, q = Pi.mk o x y ps → (o = 1 ∨ o = 2) → 0 ≤ x) → hasO k n O = true → 0 ≤ n
  | [], _, h => by simp [hasO] at h
  | .mk o x y ps :: r, hq, h => by
    simp only [hasO, Bool.or_eq_true, Bool.and_eq_true, decide_eq_true_eq] at h
    rcases h with ⟨rfl, rfl⟩ | h
    · exact hq _ List.mem_cons_self o x y ps rfl hk
    · exact hasO_nn k n hk r (fun q hm => hq q (List.mem_cons_of_mem _ hm)) h
theorem hasM_nn (k n : Int) (hk : k = 1 ∨ k = 2) : ∀ ms : List Pi, (∀ m ∈ ms, shape m = true) → hasM k n ms = true → 0 ≤ n
  | [], _, h => by simp [hasM] at h
  | m :: ms, hs, h => by
    simp only [hasM, Bool.or_eq_true] at h
    rcases h with h | h
    · exact hasO_nn k n hk _ (ofs_nm m (hs m List.mem_cons_self)) h
    · exact hasM_nn k n hk ms (fun x hx => hs x (List.mem_cons_of_mem _ hx)) h
/-- Both sides' names are the same. -/
theorem barbs_same (k : Int) (hk : k = 1 ∨ k = 2) (ms : List Pi) (hs : ∀ m ∈ ms, shape m = true) : dd (sortL (bnm k ms)) = upF (fun n => hasM k n ms) 6 0 := by
  refine SdI_uniq _ _ (dd_sd _).1 (upF_sd _ _ _) fun y => ?_
  rw [(dd_sd _).2, bnm_mem, upF_mem]
  constructor
  · rintro ⟨a, b⟩
    exact ⟨hasM_nn k y hk ms hs b, by omega, b⟩
  · rintro ⟨_, a, b⟩
    exact ⟨by omega, b⟩
end Go.Am
end
section
set_option maxRecDepth 10000
set_option linter.unusedSimpArgs false
set_option linter.unusedVariables false
namespace Go.Am
open Go.Proofs
/-- A row of numbers that grows from nothing: its value and its block. -/
def oP (d : Nat) (l : List Int) : PV := if l = [] then .nils else .own (0, d) l.length
def oL (d : Nat) (l : List Int) : Objs := if l = [] then [] else [(d, .row 1 (l.map PV.i))]
@[simp] theorem oP_n (d : Nat) : oP d [] = .nils := rfl
@[simp] theorem oL_n (d : Nat) : oL d [] = [] := rfl
@[simp] theorem oP_c (d : Nat) (x : Int) (l : List Int) : oP d (x :: l) = .own (0, d) (l.length + 1) := rfl
@[simp] theorem oL_c (d : Nat) (x : Int) (l : List Int) : oL d (x :: l) = [(d, .row 1 (.i x :: l.map PV.i))] := rfl
theorem oP_ne {d : Nat} {l : List Int} (h : l ≠ []) : oP d l = .own (0, d) l.length := by simp [oP, h]
theorem oL_ne {d : Nat} {l : List Int} (h : l ≠ []) : oL d l = [(d, .row 1 (l.map PV.i))] := by simp [oL, h]
theorem loopBb0 (k : Int) (M : List Pi) (N I : Int) (O : List Pi) (hl : O.length ≤ 4294967296) : ∀ (rest done : List Pi), done ++ rest = O → ∀ acc : List Int, acc.length + rest.length ≤ 4294967296 →
    loopI G [1, 5, 12, 13, 14, 19, 20, 21] [10, 19, 38] c115l0 ⟨[(1, .i k), (5, oP 38 acc), (12, .sl false 4 (encs M)), (13, .i N), (14, .i I), (19, .own (0, 19) O.length), (20, .i O.length), (21, .i done.length)], (19, .row 4 (encs O)) :: oL 38 acc, []⟩ =
      some (.exit 2, ⟨[(1, .i k), (5, oP 38 (acc ++ bno k rest)), (12, .sl false 4 (encs M)), (13, .i N), (14, .i I), (19, .own (0, 19) O.length), (20, .i O.length), (21, .i O.length), (22, .b false)], (19, .row 4 (encs O)) :: oL 38 (acc ++ bno k rest), []⟩)
  | [], done, hd, acc, ha => by
    have hd : done = O := by simpa using hd
    subst hd
    rw [loopI_eq]
    by_cases hA : acc = []
    · subst hA
      simp [r115l0, b115l0, bno, encs_len]
    · simp only [bno, List.append_nil, oP_ne hA, oL_ne hA]
      simp [r115l0, b115l0, bno, encs_len]
  | .mk o x y ps :: rest, done, hd, acc, ha => by
    subst hd
    have hlt : (done.length : Int) < (done.length : Int) + ((rest.length : Int) + 1) := by omega
    have hw : IntKind.i64.wrap ((done.length : Int) + 1) = (done.length : Int) + 1 := wr (by simp at hl; omega)
    have hat := encs_at done (.mk o x y ps) rest
    simp only [enc] at hat
    simp only [List.length_cons] at ha
    have hn := fun acc' h => loopBb0 k M N I (done ++ .mk o x y ps :: rest) hl rest (done ++ [.mk o x y ps]) (by simp) acc' h
    have hel : (encs (done ++ .mk o x y ps :: rest)).length = done.length + (rest.length + 1) := by simp [encs_len]
    have e1 : bno k (.mk o x y ps :: rest) = if o = k ∧ x < 6 then x :: bno k rest else bno k rest := rfl
    rw [e1]
    generalize encs (done ++ .mk o x y ps :: rest) = E at hat hn hel ⊢
    rw [loopI_eq]
    by_cases hA : acc = []
    · subst hA
      by_cases ho : o = k
      · by_cases hx : x < 6
        · have hn := hn [x] (by simp; omega)
          simp only [List.length_append, List.length_cons, List.length_nil, Int.natCast_add, show ((0 + 1 : Nat) : Int) = 1 from rfl] at hn
          simp [r115l0, b115l0, bno, hel, hlt, hw, hat, ho, hx]
          simpa using hn
        · have hn := hn [] (by simp; omega)
          simp only [List.length_append, List.length_cons, List.length_nil, Int.natCast_add, show ((0 + 1 : Nat) : Int) = 1 from rfl] at hn
          simp [r115l0, b115l0, bno, hel, hlt, hw, hat, ho, hx]
          simpa using hn
      · have hn := hn [] (by simp; omega)
        simp only [List.length_append, List.length_cons, List.length_nil, Int.natCast_add, show ((0 + 1 : Nat) : Int) = 1 from rfl] at hn
        simp [r115l0, b115l0, bno, hel, hlt, hw, hat, ho]
        simpa using hn
    · have hal : acc.length ≤ 4294967295 := by omega
      rw [oP_ne hA, oL_ne hA]
      by_cases ho : o = k
      · by_cases hx : x < 6
        · have hn := hn (acc ++ [x]) (by simp; omega)
          have hA2 : acc ++ [x] ≠ [] := by simp
          rw [oP_ne hA2, oL_ne hA2] at hn
          simp only [List.length_append, List.length_cons, List.length_nil, Int.natCast_add, show ((0 + 1 : Nat) : Int) = 1 from rfl] at hn
          simp [r115l0, b115l0, bno, hel, hlt, hw, hat, ho, hx, hal]
          simpa using hn
        · have hn := hn acc (by omega)
          rw [oP_ne hA, oL_ne hA] at hn
          simp only [List.length_append, List.length_cons, List.length_nil, Int.natCast_add, show ((0 + 1 : Nat) : Int) = 1 from rfl] at hn
          simp [r115l0, b115l0, bno, hel, hlt, hw, hat, ho, hx]
          simpa using hn
      · have hn := hn acc (by omega)
        rw [oP_ne hA, oL_ne hA] at hn
        simp only [List.length_append, List.length_cons, List.length_nil, Int.natCast_add, show ((0 + 1 : Nat) : Int) = 1 from rfl] at hn
        simp [r115l0, b115l0, bno, hel, hlt, hw, hat, ho]
        simpa using hn
theorem loopBbN (k : Int) (M : List Pi) (N I : Int) (acc : List Int) :
    loopI G [1, 5, 12, 13, 14, 19, 20, 21] [10, 19, 38] c115l0 ⟨[(1, .i k), (5, oP 38 acc), (12, .sl false 4 (encs M)), (13, .i N), (14, .i I), (19, .nils), (20, .i 0), (21, .i 0)], oL 38 acc, []⟩ =
      some (.exit 2, ⟨[(1, .i k), (5, oP 38 acc), (12, .sl false 4 (encs M)), (13, .i N), (14, .i I), (19, .nils), (20, .i 0), (21, .i 0), (22, .b false)], oL 38 acc, []⟩) := by
  rw [loopI_eq]
  by_cases hA : acc = []
  · subst hA
    simp [r115l0, b115l0]
  · simp only [oP_ne hA, oL_ne hA]
    simp [r115l0, b115l0]
theorem bno_len (k : Int) : ∀ O : List Pi, (bno k O).length ≤ O.length
  | [] => by simp [bno]
  | .mk o x y ps :: r => by
    have := bno_len k r
    simp only [bno]
    split <;> simp <;> omega
theorem loopBb1 (k : Int) : ∀ (rest done : List Pi) (acc : List Int), Fits rest → (∀ p ∈ rest, shape p = true ∧ cnt p ≤ 14) → (done ++ rest).length ≤ 1048576 → acc.length + 14 * rest.length ≤ 4294967296 →
    loopI G [1, 5, 12, 13, 14] [10, 38] c115l1 ⟨[(1, .i k), (5, oP 38 acc), (12, .sl false 4 (encs (done ++ rest))), (13, .i (done ++ rest).length), (14, .i done.length)], oL 38 acc, []⟩ =
      some (.exit 0, ⟨[(1, .i k), (5, oP 38 (acc ++ bnm k rest)), (12, .sl false 4 (encs (done ++ rest))), (13, .i (done ++ rest).length), (14, .i (done ++ rest).length), (15, .b false)], oL 38 (acc ++ bnm k rest), []⟩)
  | [], done, acc, hf, hs, hl, ha => by
    rw [loopI_eq]
    simp only [bnm, List.append_nil]
    by_cases hA : acc = []
    · subst hA
      simp [r115l1, b115l1, encs_len]
    · simp only [oP_ne hA, oL_ne hA]
      simp [r115l1, b115l1, encs_len]
  | p :: rest, done, acc, hf, hs, hl, ha => by
    have hp := hs p List.mem_cons_self
    obtain ⟨v, hv, hc⟩ := eqOffersI p hf.1 hp.1 (by omega)
    have hol := ofs_len p
    have hlt : (done.length : Int) < (done.length : Int) + ((rest.length : Int) + 1) := by omega
    have hw : IntKind.i64.wrap ((done.length : Int) + 1) = (done.length : Int) + 1 := wr (by simp at hl; omega)
    have hat := encs_at done p rest
    simp only [List.length_cons] at ha
    have hbl := bno_len k (ofs p)
    have hn := loopBb1 k rest (done ++ [p]) (acc ++ bno k (ofs p)) hf.2 (fun q hq => hs q (List.mem_cons_of_mem _ hq)) (by simpa using hl) (by simp; omega)
    have e1 : acc ++ bnm k (p :: rest) = acc ++ bno k (ofs p) ++ bnm k rest := by simp [bnm]
    rw [e1]
    have e2 : done ++ [p] ++ rest = done ++ p :: rest := by simp
    rw [e2] at hn
    simp only [List.length_append, List.length_cons, List.length_nil, Int.natCast_add, show ((0 + 1 : Nat) : Int) = 1 from rfl, show ((1 : Nat) : Int) = 1 from rfl] at hn ⊢
    generalize hacc2 : acc ++ bno k (ofs p) = acc2 at hn ⊢
    rw [loopI_eq]
    have hel : (encs (ofs p)).length = (ofs p).length := encs_len _
    have h0 := loopBb0 k (done ++ p :: rest) ((done.length : Int) + ((rest.length : Int) + 1)) done.length (ofs p) (by omega) (ofs p) [] rfl acc (by omega)
    rw [hacc2] at h0
    simp only [List.length_nil, show ((0 : Nat) : Int) = 0 from rfl] at h0
    rcases hv with ⟨rfl, hO⟩ | rfl
    · have e3 : acc2 = acc := by rw [← hacc2, hO]; simp [bno]
      subst e3
      have h0 := loopBbN k (done ++ p :: rest) ((done.length : Int) + ((rest.length : Int) + 1)) done.length acc2
      obtain ⟨o, x, y, ps⟩ := p
      simp only [enc] at hc hat
      by_cases hA : acc2 = []
      · subst hA
        simp only [oP_n, oL_n] at h0 hn ⊢
        simp [r115l1, b115l1, encs_len, hat, hlt, hw, hc, h0]
        simpa [Int.add_assoc] using hn
      · simp only [oP_ne hA, oL_ne hA] at h0 hn ⊢
        simp [r115l1, b115l1, encs_len, hat, hlt, hw, hc, h0]
        simpa [Int.add_assoc] using hn
    · obtain ⟨o, x, y, ps⟩ := p
      simp only [enc] at hc hat
      generalize encs (ofs (.mk o x y ps)) = E at hc h0 hel
      generalize ofs (.mk o x y ps) = O at *
      by_cases hA : acc = []
      · subst hA
        by_cases hB : acc2 = []
        · subst hB
          simp only [oP_n, oL_n] at h0 hn ⊢
          simp [r115l1, b115l1, encs_len, hat, hlt, hw, hc, h0, hel]
          simpa [Int.add_assoc] using hn
        · simp only [oP_n, oL_n, oP_ne hB, oL_ne hB] at h0 hn ⊢
          simp [r115l1, b115l1, encs_len, hat, hlt, hw, hc, h0, hel]
          simpa [Int.add_assoc] using hn
      · have hB : acc2 ≠ [] := by rw [← hacc2]; simp [hA]
        simp only [oP_ne hA, oL_ne hA, oP_ne hB, oL_ne hB] at h0 hn ⊢
        simp [r115l1, b115l1, encs_len, hat, hlt, hw, hc, h0, hel]
        simpa [Int.add_assoc] using hn
/-- Rows of numbers, made anew. -/
def encI : List Int → PV
  | [] => .nils
  | x :: l => .sl true 1 (ints (x :: l))
theorem map_ints : ∀ l : List Int, l.map PV.i = ints l
  | [] => rfl
  | x :: l => by simp [ints, map_ints l]
theorem map_iP (l : List Int) : l.map iP = ints l := map_ints l
theorem eqBarbs (k : Int) (ss : List Int) (ms : List Pi) (hf : Fits ms) (hs : ∀ p ∈ ms, shape p = true ∧ cnt p ≤ 14) (hl : ms.length ≤ 1048576) :
    callI G 115 [encPool ss ms, .i k] [] = some (encI (dd (sortL (bnm k ms))), []) := by
  have hlp := loopBb1 k ms [] [] hf hs (by simpa using hl) (by simp; omega)
  simp only [List.nil_append, List.length_nil, show ((0 : Nat) : Int) = 0 from rfl, oP_n, oL_n] at hlp
  have hbl : (bnm k ms).length ≤ 14 * ms.length := by
    clear hlp hl
    induction ms with
    | nil => simp [bnm]
    | cons m ms ih =>
      have h1 := bno_len k (ofs m)
      have h2 := ofs_len m
      have h3 := (hs m List.mem_cons_self).2
      have h4 := ih hf.2 fun p hp => hs p (List.mem_cons_of_mem _ hp)
      simp only [bnm, List.length_append, List.length_cons]
      omega
  rw [callI_eq]
  by_cases hA : bnm k ms = []
  · rw [hA] at hlp ⊢
    simp only [oP_n, oL_n] at hlp
    have h1 := eqSortI [.nils] []
    have h2 := eqCompactN []
    have e1 : dd (sortL []) = [] := by simp [sortL, dd]
    rw [e1]
    simp [body1_eq _ _ (gp 115) g115, c115, a115, encs_len, hlp, h1, h2, sortI, encI]
  · simp only [oP_ne hA, oL_ne hA] at hlp
    have hsl := sortL_len (bnm k ms)
    have hne : dd (sortL (bnm k ms)) ≠ [] := by
      intro h
      obtain ⟨x, hx⟩ := List.exists_mem_of_ne_nil _ hA
      have := (dd_sd (bnm k ms)).2 x |>.2 hx
      rw [h] at this; cases this
    have hE : encI (dd (sortL (bnm k ms))) = .sl true 1 (ints (dd (sortL (bnm k ms)))) := by
      cases h : dd (sortL (bnm k ms)) with
      | nil => exact absurd h hne
      | cons x l => rfl
    rw [hE]
    have h1 : callI G 148 [.own (0, 38) (bnm k ms).length] [[(38, .row 1 ((bnm k ms).map PV.i))]] = some (.tup [], [[(38, .row 1 (ints (sortL (bnm k ms))))]]) := by
      rw [eqSortI]
      have : (bnm k ms).length < 4611686018427387904 := by omega
      simp [sortI, getS, getO, setS, setO, this, ← map_ints]
    have h2 := eqCompact (0, 38) (sortL (bnm k ms)) [[(38, .row 1 (ints (sortL (bnm k ms))))]] (by simp) (by simp [getS, getO, map_iP]) (by rw [hsl]; omega)
    rw [hsl] at h2
    simp only [map_iP] at h2
    rcases h2 with ⟨h3, h2⟩ | h2
    · rw [h3]
      simp [body1_eq _ _ (gp 115) g115, c115, a115, encs_len, hlp, h1, h2, ints_len, hsl]
    · have e4 : setS [[(38, OB.row 1 (ints (sortL (bnm k ms))))]] (0, 38) .dead = [[(38, .dead)]] := rfl
      rw [e4] at h2
      simp [body1_eq _ _ (gp 115) g115, c115, a115, encs_len, hlp, h1, h2, ints_len]
end Go.Am
end
section
set_option maxRecDepth 10000
set_option maxHeartbeats 16000000
set_option linter.unusedSimpArgs false
set_option linter.unusedVariables false
namespace Go.Am
open Go.Proofs
theorem loopSb0 (n i : Int) (X Y : PV) (hX : ∀ g n, known g n X = true) (hY : ∀ g n, known g n Y = true) (O : List Pi) (hl : O.length ≤ 4294967296) (A B : List Int) : ∀ (rest done : List Pi), done ++ rest = O → ∀ s g : Bool,
    loopI G [1, 4, 5, 6, 7, 8, 9, 10, 11] [1, 12, 13, 34, 81, 86] c55l0 ⟨[(1, .ref (0, 1) 1 0 0), (4, oP 81 A), (5, oP 86 B), (6, .i n), (7, .b s), (8, .b g), (9, .i i), (10, .own (0, 34) O.length), (11, .i done.length)], (1, .box [X, Y]) :: (34, .row 4 (encs O)) :: (oL 81 A ++ oL 86 B), []⟩ =
      some (.exit 4, ⟨[(1, .ref (0, 1) 1 0 0), (4, oP 81 A), (5, oP 86 B), (6, .i n), (7, .b (s || hasO 1 n rest)), (8, .b (g || hasO 2 n rest)), (9, .i i), (10, .own (0, 34) O.length), (11, .i O.length), (38, .b false)], (1, .box [X, Y]) :: (34, .row 4 (encs O)) :: (oL 81 A ++ oL 86 B), []⟩) := by
  by_cases hA : A = [] <;> by_cases hB : B = []
  all_goals
    first
      | simp only [oP_ne hA, oL_ne hA, oP_ne hB, oL_ne hB, List.cons_append, List.nil_append]
      | simp only [hA, oP_n, oL_n, oP_ne hB, oL_ne hB, List.append_nil, List.nil_append]
      | simp only [hB, oP_n, oL_n, oP_ne hA, oL_ne hA, List.append_nil, List.nil_append]
      | simp only [hA, hB, oP_n, oL_n, List.append_nil, List.nil_append]
    intro rest
    induction rest with
    | nil =>
      intro done hd s g
      have hd : done = O := by simpa using hd
      subst hd
      rw [loopI_eq]
      simp [r55l0, b55l0, hasO, encs_len, hX, hY]
    | cons p rest ih =>
      intro done hd s g
      subst hd
      obtain ⟨o, x, y, ps⟩ := p
      have hlt : (done.length : Int) < (done.length : Int) + ((rest.length : Int) + 1) := by omega
      have hw : IntKind.i64.wrap ((done.length : Int) + 1) = (done.length : Int) + 1 := wr (by simp at hl; omega)
      have hat := encs_at done (.mk o x y ps) rest
      simp only [enc] at hat
      have hn := fun s g => ih (done ++ [.mk o x y ps]) (by simp) s g
      simp only [List.length_append, List.length_cons, List.length_nil, Int.natCast_add, show ((0 + 1 : Nat) : Int) = 1 from rfl] at hn
      have hel : (encs (done ++ .mk o x y ps :: rest)).length = done.length + (rest.length + 1) := by simp [encs_len]
      have e1 : hasO 1 n (.mk o x y ps :: rest) = ((decide (o = 1) && decide (x = n)) || hasO 1 n rest) := rfl
      have e2 : hasO 2 n (.mk o x y ps :: rest) = ((decide (o = 2) && decide (x = n)) || hasO 2 n rest) := rfl
      rw [e1, e2]
      generalize hasO 1 n rest = q1 at hn ⊢
      generalize hasO 2 n rest = q2 at hn ⊢
      simp only [List.length_append, List.length_cons, List.length_nil, Int.natCast_add, show ((0 + 1 : Nat) : Int) = 1 from rfl, show ((1 : Nat) : Int) = 1 from rfl] at hn ⊢
      generalize encs (done ++ .mk o x y ps :: rest) = E at hat hn hel ⊢
      rw [loopI_eq]
      by_cases h1 : o = 1
      · subst h1
        by_cases hx : x = n
        · subst hx
          have hn := hn true g
          cases s <;> cases g <;> (simp [r55l0, b55l0, hel, hlt, hw, hat, hX, hY]; simpa [Int.add_assoc] using hn)
        · have hn := hn s g
          cases s <;> cases g <;> (simp [r55l0, b55l0, hel, hlt, hw, hat, hX, hY, hx]; simpa [hx, Int.add_assoc] using hn)
      · by_cases h2 : o = 2
        · subst h2
          by_cases hx : x = n
          · subst hx
            have hn := hn s true
            cases s <;> cases g <;> (simp [r55l0, b55l0, hel, hlt, hw, hat, hX, hY]; simpa [Int.add_assoc] using hn)
          · have hn := hn s g
            cases s <;> cases g <;> (simp [r55l0, b55l0, hel, hlt, hw, hat, hX, hY, hx]; simpa [hx, Int.add_assoc] using hn)
        · have hn := hn s g
          cases s <;> cases g <;> (simp [r55l0, b55l0, hel, hlt, hw, hat, hX, hY, h1, h2]; simpa [h1, h2, Int.add_assoc] using hn)
theorem loopSbN (n i : Int) (X Y : PV) (hX : ∀ g n, known g n X = true) (hY : ∀ g n, known g n Y = true) (A B : List Int) (s g : Bool) :
    loopI G [1, 4, 5, 6, 7, 8, 9, 10, 11] [1, 12, 13, 34, 81, 86] c55l0 ⟨[(1, .ref (0, 1) 1 0 0), (4, oP 81 A), (5, oP 86 B), (6, .i n), (7, .b s), (8, .b g), (9, .i i), (10, .nils), (11, .i 0)], (1, .box [X, Y]) :: (oL 81 A ++ oL 86 B), []⟩ =
      some (.exit 4, ⟨[(1, .ref (0, 1) 1 0 0), (4, oP 81 A), (5, oP 86 B), (6, .i n), (7, .b s), (8, .b g), (9, .i i), (10, .nils), (11, .i 0), (38, .b false)], (1, .box [X, Y]) :: (oL 81 A ++ oL 86 B), []⟩) := by
  rw [loopI_eq]
  by_cases hA : A = [] <;> by_cases hB : B = []
  all_goals
    first
      | simp only [oP_ne hA, oL_ne hA, oP_ne hB, oL_ne hB, List.cons_append, List.nil_append]
      | simp only [hA, oP_n, oL_n, oP_ne hB, oL_ne hB, List.append_nil, List.nil_append]
      | simp only [hB, oP_n, oL_n, oP_ne hA, oL_ne hA, List.append_nil, List.nil_append]
      | simp only [hA, hB, oP_n, oL_n, List.append_nil, List.nil_append]
    simp [r55l0, b55l0, hX, hY]
theorem loopSb1 (n : Int) (X : PV) (hX : ∀ g n, known g n X = true) (hXc : cellP X = true) (A B : List Int) (M : List Pi) (hl : M.length ≤ 1048576) : ∀ (rest done : List Pi), done ++ rest = M → Fits rest → (∀ p ∈ rest, shape p = true ∧ cnt p ≤ 14) → ∀ s g : Bool,
    loopI G [1, 4, 5, 6, 7, 8, 9] [1, 12, 13, 81, 86] c55l1 ⟨[(1, .ref (0, 1) 1 0 0), (4, oP 81 A), (5, oP 86 B), (6, .i n), (7, .b s), (8, .b g), (9, .i done.length)], (1, .box [X, .sl false 4 (encs M)]) :: (oL 81 A ++ oL 86 B), []⟩ =
      some (.exit 2, ⟨[(1, .ref (0, 1) 1 0 0), (4, oP 81 A), (5, oP 86 B), (6, .i n), (7, .b (s || hasM 1 n rest)), (8, .b (g || hasM 2 n rest)), (9, .i M.length), (26, .b false)], (1, .box [X, .sl false 4 (encs M)]) :: (oL 81 A ++ oL 86 B), []⟩) := by
  have h0 := fun (i : Int) => loopSb0 n i X (.sl false 4 (encs M)) hX (by intro g n; simp)
  have hN := fun (i : Int) => loopSbN n i X (.sl false 4 (encs M)) hX (by intro g n; simp) A B
  have h0 := fun (i : Int) O hl => h0 i O hl A B O [] rfl
  by_cases hA : A = [] <;> by_cases hB : B = []
  all_goals
    first
      | simp only [oP_ne hA, oL_ne hA, oP_ne hB, oL_ne hB, List.cons_append, List.nil_append] at h0 hN ⊢
      | simp only [hA, oP_n, oL_n, oP_ne hB, oL_ne hB, List.append_nil, List.nil_append] at h0 hN ⊢
      | simp only [hB, oP_n, oL_n, oP_ne hA, oL_ne hA, List.append_nil, List.nil_append] at h0 hN ⊢
      | simp only [hA, hB, oP_n, oL_n, List.append_nil, List.nil_append] at h0 hN ⊢
    intro rest
    induction rest with
    | nil =>
      intro done hd hf hs s g
      have hd : done = M := by simpa using hd
      subst hd
      rw [loopI_eq]
      simp [r55l1, b55l1, hasM, encs_len, hX, hXc]
    | cons p rest ih =>
      intro done hd hf hs s g
      subst hd
      have hlt : (done.length : Int) < (done.length : Int) + ((rest.length : Int) + 1) := by omega
      have hw : IntKind.i64.wrap ((done.length : Int) + 1) = (done.length : Int) + 1 := wr (by simp at hl; omega)
      have hat := encs_at done p rest
      have hp := hs p List.mem_cons_self
      obtain ⟨v, hv, hc⟩ := eqOffersS p hf.1 hp.1 (by omega)
      have hol := ofs_len p
      have hn := fun s g => ih (done ++ [p]) (by simp) hf.2 (fun q hq => hs q (List.mem_cons_of_mem _ hq)) s g
      simp only [List.length_append, List.length_cons, List.length_nil, Int.natCast_add, show ((0 + 1 : Nat) : Int) = 1 from rfl] at hn
      have hel : (encs (done ++ p :: rest)).length = done.length + (rest.length + 1) := by simp [encs_len]
      have e1 : hasM 1 n (p :: rest) = (hasO 1 n (ofs p) || hasM 1 n rest) := rfl
      have e2 : hasM 2 n (p :: rest) = (hasO 2 n (ofs p) || hasM 2 n rest) := rfl
      rw [e1, e2]
      generalize hasM 1 n rest = q1 at hn ⊢
      generalize hasM 2 n rest = q2 at hn ⊢
      simp only [List.length_append, List.length_cons, List.length_nil, Int.natCast_add, show ((0 + 1 : Nat) : Int) = 1 from rfl, show ((1 : Nat) : Int) = 1 from rfl] at hn ⊢
      generalize encs (done ++ p :: rest) = E at hat hn hel h0 hN ⊢
      rw [loopI_eq]
      have hel2 : (encs (ofs p)).length = (ofs p).length := encs_len _
      have h0 := h0 done.length (ofs p) (by omega) s g
      simp only [List.length_nil, show ((0 : Nat) : Int) = 0 from rfl] at h0
      rcases hv with ⟨rfl, hO⟩ | rfl
      · have hn := hn s g
        have hN := hN done.length s g
        rw [hO]
        obtain ⟨o, x, y, ps⟩ := p
        simp only [enc] at hc hat
        simp [r55l1, b55l1, hel, hlt, hw, hat, hX, hXc, hc, hN]
        simpa [hasO, Int.add_assoc] using hn
      · have hn := hn (s || hasO 1 n (ofs p)) (g || hasO 2 n (ofs p))
        generalize hasO 1 n (ofs p) = w1 at hn h0 ⊢
        generalize hasO 2 n (ofs p) = w2 at hn h0 ⊢
        obtain ⟨o, x, y, ps⟩ := p
        simp only [enc] at hc hat
        generalize encs (ofs (.mk o x y ps)) = E2 at hc h0 hel2
        generalize ofs (.mk o x y ps) = O at *
        simp [r55l1, b55l1, hel, hel2, hlt, hw, hat, hX, hXc, hc, h0]
        simpa [Bool.or_assoc, Int.add_assoc] using hn
theorem upF_len (f : Int → Bool) : ∀ (m : Nat) (n : Int), (upF f m n).length ≤ m
  | 0, n => by simp [upF]
  | m + 1, n => by
    have := upF_len f m (n + 1)
    simp only [upF]
    split <;> simp <;> omega
theorem loopSb2 (ss : List Int) (hss : ss.length ≤ 9223372036854775807) (M : List Pi) (hl : M.length ≤ 1048576) (hf : Fits M) (hs : ∀ p ∈ M, shape p = true ∧ cnt p ≤ 14) (hok : poolS ss M = true) : ∀ (k : Nat) (n : Int) (A B : List Int), 0 ≤ n → n + k = 6 → A.length + k ≤ 6 → B.length + k ≤ 6 →
    loopI G [1, 4, 5, 6] [1, 12, 13, 81, 86] c55l2 ⟨[(1, .ref (0, 1) 1 0 0), (4, oP 81 A), (5, oP 86 B), (6, .i n)], (1, .box [.sl false 1 (ints ss), .sl false 4 (encs M)]) :: (oL 81 A ++ oL 86 B), []⟩ =
      some (.exit 0, ⟨[(1, .ref (0, 1) 1 0 0), (4, oP 81 (A ++ upF (fun n => hasM 1 n M) k n)), (5, oP 86 (B ++ upF (fun n => hasM 2 n M) k n)), (6, .i 6), (19, .b false)], (1, .box [.sl false 1 (ints ss), .sl false 4 (encs M)]) :: (oL 81 (A ++ upF (fun n => hasM 1 n M) k n) ++ oL 86 (B ++ upF (fun n => hasM 2 n M) k n)), []⟩)
  | 0, n, A, B, h0, hk, ha, hb => by
    have hn : n = 6 := by omega
    subst hn
    simp only [upF, List.append_nil]
    rw [loopI_eq]
    by_cases hA : A = [] <;> by_cases hB : B = []
    all_goals
      first
        | simp only [oP_ne hA, oL_ne hA, oP_ne hB, oL_ne hB, List.cons_append, List.nil_append]
        | simp only [hA, oP_n, oL_n, oP_ne hB, oL_ne hB, List.append_nil, List.nil_append]
        | simp only [hB, oP_n, oL_n, oP_ne hA, oL_ne hA, List.append_nil, List.nil_append]
        | simp only [hA, hB, oP_n, oL_n, List.append_nil, List.nil_append]
      simp [r55l2, b55l2]
  | k + 1, n, A, B, h0, hk, ha, hb => by
    have hpo := eqPoolOkS ss M hss (by omega) hf
    rw [hok] at hpo
    have hlt : n < 6 := by omega
    have hw : IntKind.i64.wrap (n + 1) = n + 1 := wr (by omega)
    have h1 := loopSb1 n (.sl false 1 (ints ss)) (by intro g n; simp) rfl A B M hl M [] rfl hf hs false false
    simp only [List.length_nil, show ((0 : Nat) : Int) = 0 from rfl, Bool.false_or] at h1
    have hn := fun A' B' ha hb => loopSb2 ss hss M hl hf hs hok k (n + 1) A' B' (by omega) (by omega) ha hb
    have e1 : ∀ c : Int, upF (fun n => hasM c n M) (k + 1) n = if hasM c n M = true then n :: upF (fun n => hasM c n M) k (n + 1) else upF (fun n => hasM c n M) k (n + 1) := fun _ => rfl
    have e2 : ∀ (A U : List Int), A ++ n :: U = A ++ [n] ++ U := fun A U => by simp
    have hAn : ∀ A : List Int, A ++ [n] ≠ [] := fun A => by simp
    have hA9 : A.length ≤ 4294967295 := by omega
    have hB9 : B.length ≤ 4294967295 := by omega
    rw [e1, e1]
    cases q1 : hasM 1 n M <;> cases q2 : hasM 2 n M
    · rw [q1, q2] at h1
      have hn := hn A B (by omega) (by omega)
      simp only [if_false, Bool.false_eq_true]
      refine Eq.trans ?_ hn
      rw [loopI_eq]
      by_cases hA : A = [] <;> by_cases hB : B = []
      all_goals
        first
          | simp only [oP_ne hA, oL_ne hA, oP_ne hB, oL_ne hB, List.cons_append, List.nil_append] at h1 ⊢
          | simp only [hA, oP_n, oL_n, oP_ne hB, oL_ne hB, List.append_nil, List.nil_append] at h1 ⊢
          | simp only [hB, oP_n, oL_n, oP_ne hA, oL_ne hA, List.append_nil, List.nil_append] at h1 ⊢
          | simp only [hA, hB, oP_n, oL_n, List.append_nil, List.nil_append] at h1 ⊢
        simp [r55l2, b55l2, hpo, hw, hlt, h1]
    · rw [q1, q2] at h1
      have hn := hn A (B ++ [n]) (by omega) (by simp; omega)
      simp only [if_false, Bool.false_eq_true, if_true]
      rw [e2]
      refine Eq.trans ?_ hn
      rw [loopI_eq]
      by_cases hA : A = [] <;> by_cases hB : B = []
      all_goals
        first
          | simp only [oP_ne hA, oL_ne hA, oP_ne hB, oL_ne hB, oP_ne (hAn _), oL_ne (hAn _), List.cons_append, List.nil_append] at h1 ⊢
          | simp only [hA, oP_n, oL_n, oP_ne hB, oL_ne hB, oP_ne (hAn _), oL_ne (hAn _), List.append_nil, List.nil_append] at h1 ⊢
          | simp only [hB, oP_n, oL_n, oP_ne hA, oL_ne hA, List.append_nil, List.nil_append] at h1 ⊢
          | simp only [hA, hB, oP_n, oL_n, List.append_nil, List.nil_append] at h1 ⊢
        simp [r55l2, b55l2, hpo, hw, hlt, h1, hB9]
    · rw [q1, q2] at h1
      have hn := hn (A ++ [n]) B (by simp; omega) (by omega)
      simp only [if_false, Bool.false_eq_true, if_true]
      rw [e2]
      refine Eq.trans ?_ hn
      rw [loopI_eq]
      by_cases hA : A = [] <;> by_cases hB : B = []
      all_goals
        first
          | simp only [oP_ne hA, oL_ne hA, oP_ne hB, oL_ne hB, oP_ne (hAn _), oL_ne (hAn _), List.cons_append, List.nil_append] at h1 ⊢
          | simp only [hA, oP_n, oL_n, oP_ne hB, oL_ne hB, List.append_nil, List.nil_append] at h1 ⊢
          | simp only [hB, oP_n, oL_n, oP_ne hA, oL_ne hA, oP_ne (hAn _), oL_ne (hAn _), List.append_nil, List.nil_append] at h1 ⊢
          | simp only [hA, hB, oP_n, oL_n, List.append_nil, List.nil_append] at h1 ⊢
        simp [r55l2, b55l2, hpo, hw, hlt, h1, hA9]
    · rw [q1, q2] at h1
      have hn := hn (A ++ [n]) (B ++ [n]) (by simp; omega) (by simp; omega)
      simp only [if_true]
      rw [e2 A (upF (fun n => hasM 1 n M) k (n + 1)), e2 B (upF (fun n => hasM 2 n M) k (n + 1))]
      refine Eq.trans ?_ hn
      rw [loopI_eq]
      by_cases hA : A = [] <;> by_cases hB : B = []
      all_goals
        first
          | simp only [oP_ne hA, oL_ne hA, oP_ne hB, oL_ne hB, oP_ne (hAn _), oL_ne (hAn _), List.cons_append, List.nil_append] at h1 ⊢
          | simp only [hA, oP_n, oL_n, oP_ne hB, oL_ne hB, oP_ne (hAn _), oL_ne (hAn _), List.append_nil, List.nil_append] at h1 ⊢
          | simp only [hB, oP_n, oL_n, oP_ne hA, oL_ne hA, oP_ne (hAn _), oL_ne (hAn _), List.append_nil, List.nil_append] at h1 ⊢
          | simp only [hA, hB, oP_n, oL_n, List.append_nil, List.nil_append] at h1 ⊢
        simp [r55l2, b55l2, hpo, hw, hlt, h1, hA9, hB9]
end Go.Am
end
section
set_option maxRecDepth 10000
set_option linter.unusedSimpArgs false
set_option linter.unusedVariables false
namespace Go.Am
open Go.Proofs
/-! #### marked terms -/
/-- Owned or frozen, the empty lists nil or not. -/
def encP (nl u : Bool) (xs : List PV) : PV := if (nl && xs.isEmpty) = true then .nils else .sl u 4 xs
mutual
def encX (nl u : Bool) : Pi → PV
  | .mk o x y ps => .agg [.i o, .i x, .i y, encP nl u (encXs nl u ps)]
def encXs (nl u : Bool) : List Pi → List PV
  | [] => []
  | p :: ps => encX nl u p :: encXs nl u ps
end
theorem encXs_len (nl u : Bool) : ∀ ps : List Pi, (encXs nl u ps).length = ps.length
  | [] => rfl
  | _ :: ps => by simp [encXs, encXs_len nl u ps]
theorem encP_nil (u : Bool) : encP true u [] = .nils := rfl
theorem encP_sl (nl u : Bool) (xs : List PV) (h : nl = false ∨ xs ≠ []) : encP nl u xs = .sl u 4 xs := by
  unfold encP
  rcases h with h | h
  · simp [h]
  · cases xs with
    | nil => exact absurd rfl h
    | cons _ _ => simp
theorem encXs_nil (nl u : Bool) {ps : List Pi} (h : encXs nl u ps = []) : ps = [] := by
  cases ps with
  | nil => rfl
  | cons _ _ => simp [encXs] at h
mutual
theorem encU_X : ∀ p : Pi, encU p = encX false true p
  | .mk o x y ps => by simp [encU, encX, encUs_X ps, encP]
theorem encUs_X : ∀ ps : List Pi, encUs ps = encXs false true ps
  | [] => rfl
  | p :: ps => by simp [encUs, encXs, encU_X p, encUs_X ps]
end
mutual
theorem fal_encX (nl : Bool) : ∀ p : Pi, fal (encX nl true p) = encX nl false p
  | .mk o x y ps => by
    have h := fals_encXs nl ps
    simp only [encX, fal, fals, encP]
    cases hps : encXs nl true ps with
    | nil =>
      have := encXs_nil nl true hps
      subst this
      cases nl <;> simp [encXs, fal, fals]
    | cons a l =>
      rw [hps] at h
      rw [← h]
      simp [fal, fals]
theorem fals_encXs (nl : Bool) : ∀ ps : List Pi, fals (encXs nl true ps) = encXs nl false ps
  | [] => rfl
  | p :: ps => by simp [encXs, fals, fal_encX nl p, fals_encXs nl ps]
end
theorem encXs_cons (nl u : Bool) (p : Pi) (ps : List Pi) : encXs nl u (p :: ps) = encX nl u p :: encXs nl u ps := rfl
mutual
/-- A term marked: every field bears the next number. -/
def mk1 : Int → Pi → Pi
  | k, .mk _ _ _ qs => .mk k (k + 1) (k + 2) (mkP (k + 3) qs)
def mkP : Int → List Pi → List Pi
  | _, [] => []
  | k, p :: ps => mk1 k p :: mkP (k + 3 * cnt p) ps
end
theorem mkP_len : ∀ (k : Int) (ps : List Pi), (mkP k ps).length = ps.length
  | _, [] => rfl
  | k, p :: ps => by simp [mkP, mkP_len _ ps]
theorem at_Dm (D : List PV) (x : PV) (E : List PV) (n : Nat) (h : n = D.length) : nth (D ++ x :: E) n = some x := by
  subst h
  unfold nth
  rw [List.getElem?_append_right (Nat.le_refl _)]
  simp
theorem set_D (D : List PV) (x y : PV) (E : List PV) (n : Nat) (h : n = D.length) : (D ++ x :: E).set n y = D ++ y :: E := by
  subst h
  rw [List.set_append_right _ _ (Nat.le_refl _)]
  simp
theorem loop48 (nl : Bool) (id : Id) (N : Nat) (rest : List Pi) (ih : ∀ p ∈ rest, ∀ o x y qs, p = .mk o x y qs → nl = false ∨ qs ≠ [] → ∀ (k : Int), 0 ≤ k → k + 3 * cnts qs ≤ 1152921504606846976 →
      callI G 116 [.own (0, 0) qs.length, .i k] [[(0, .row 4 (encXs nl true qs))]] = some (.i (k + 3 * cnts qs), [[(0, .row 4 (encXs nl true (mkP k qs)))]]))
    (ihn : ∀ k : Int, callI G 116 [.nils, .i k] [] = some (.i k, [])) :
    ∀ (D : List PV) (k : Int) (o : Stack), id.1 < o.length → getS o id = some (.row 4 (D ++ encXs nl true rest)) → N = D.length + rest.length → N ≤ 1152921504606846976 → 0 ≤ k → k + 3 * cnts rest ≤ 1152921504606846976 → ∀ i : Int, i = D.length →
      loopI G [0, 1, 5] [] c116l0 ⟨[(0, .own id N), (1, .i k), (5, .i i)], [], o⟩ =
        some (.exit 0, ⟨[(0, .own id N), (1, .i (k + 3 * cnts rest)), (5, .i N), (9, .b false)], [], setS o id (.row 4 (D ++ encXs nl true (mkP k rest)))⟩) := by
  induction rest with
  | nil =>
    intro D k o hid hg hN hNN hk0 hk i hi
    rw [loopI_eq]
    have hne : ¬ id.1 = o.length := by omega
    have e1 : i = N := by rw [hi, hN]; simp
    have e2 : setS o id (.row 4 (D ++ encXs nl true (mkP k []))) = o := setS_same o id _ hg
    rw [e2]
    have hget : ∀ r l, St.get ⟨r, l, o⟩ id = some (.row 4 (D ++ encXs nl true [])) := fun r l => by rw [get_low hid, hg]
    simp [-St.get, -St.set, r116l0, b116l0, hne, hget, e1, cnts, encXs, hN]
  | cons p rest ih2 =>
    intro D k o hid hg hN hNN hk0 hk i hi
    obtain ⟨po, px, py, qs⟩ := p
    rw [loopI_eq]
    have hne : ¬ id.1 = o.length := by omega
    have hcp := cnts_pos rest
    have hcq := cnts_pos qs
    have hcc : cnts (.mk po px py qs :: rest) = 1 + cnts qs + cnts rest := rfl
    have hcn : cnt (.mk po px py qs) = 1 + cnts qs := rfl
    rw [hcc] at hk
    have hlt : i < N := by simp at hN; omega
    have hge : 0 ≤ i := by omega
    have htn : i.toNat = D.length := by omega
    have hget : ∀ r l, St.get ⟨r, l, o⟩ id = some (.row 4 (D ++ encX nl true (.mk po px py qs) :: encXs nl true rest)) := fun r l => by rw [get_low hid, hg, encXs_cons]
    have hget2 : ∀ r l R, St.get ⟨r, l, setS o id R⟩ id = some R := fun r l R => by rw [get_low (by rw [setS_len]; exact hid), getS_setS hid]
    have hset : ∀ r l R, St.set ⟨r, l, o⟩ id R = ⟨r, l, setS o id R⟩ := fun r l R => set_low hid
    have hset2 : ∀ r l R Q, St.set ⟨r, l, setS o id R⟩ id Q = ⟨r, l, setS o id Q⟩ := fun r l R Q => by rw [set_low (by rw [setS_len]; exact hid), setS_setS]
    have hw : IntKind.i64.wrap (i + 1) = i + 1 := wr (by omega)
    have hw1 : IntKind.i64.wrap (k + 1) = k + 1 := wr (by omega)
    have hw2 : IntKind.i64.wrap (k + 1 + 1) = k + 1 + 1 := wr (by omega)
    have hw3 : IntKind.i64.wrap (k + 1 + 1 + 1) = k + 1 + 1 + 1 := wr (by omega)
    have hat := fun x => at_Dm D x (encXs nl true rest) i.toNat htn
    have hst := fun x y => set_D D x y (encXs nl true rest) i.toNat htn
    have hl2 : ∀ x, (D ++ x :: encXs nl true rest).length = N := fun x => by simp [encXs_len, hN]
    have e3 : k + 1 + 1 + 1 + 3 * cnts qs = k + 3 * (1 + cnts qs) := by omega
    have e4 : k + 1 + 1 + 1 + 3 * cnts qs + 3 * cnts rest = k + 3 * (1 + cnts qs + cnts rest) := by omega
    have e5 : k + 1 + 1 = k + 2 := by omega
    have e6 : k + 1 + 1 + 1 = k + 3 := by omega
    have hn := ih2 (fun q hq => ih q (List.mem_cons_of_mem _ hq)) (D ++ [.agg [.i k, .i (k + 1), .i (k + 1 + 1), encP nl true (encXs nl true (mkP (k + 1 + 1 + 1) qs))]]) (k + 1 + 1 + 1 + 3 * cnts qs) (setS o id (.row 4 (D ++ .agg [.i k, .i (k + 1), .i (k + 1 + 1), encP nl true (encXs nl true (mkP (k + 1 + 1 + 1) qs))] :: encXs nl true rest))) (by rw [setS_len]; exact hid) (by rw [getS_setS hid]; simp) (by simp at hN ⊢; omega) hNN (by omega) (by omega) (i + 1) (by simp; omega)
    rw [setS_setS] at hn
    by_cases hq : nl = false ∨ qs ≠ []
    · have hq' : nl = false ∨ encXs nl true qs ≠ [] := hq.imp (fun h => h) (fun h e => h (encXs_nil nl true e))
      have hq2 : nl = false ∨ encXs nl true (mkP (k + 1 + 1 + 1) qs) ≠ [] := hq.imp (fun h => h) (fun h e => h (by
        have := encXs_nil nl true e
        cases qs with
        | nil => rfl
        | cons _ _ => simp [mkP] at this))
      have hc := ih (.mk po px py qs) List.mem_cons_self po px py qs rfl hq (k + 1 + 1 + 1) (by omega) (by omega)
      simp only [encX, encP_sl nl true _ hq'] at hget
      simp only [encP_sl nl true _ hq2] at hn
      simp [-St.get, -St.set, r116l0, b116l0, hne, hget, hget2, hset, hset2, hlt, hge, hat, hst, hl2, hw, hw1, hw2, hw3, setS_len, unAgg, hc, encXs_len, mkP_len]
      rw [hn]
      simp only [mkP, mk1, encXs, encX, hcc, hcn, List.append_assoc, List.cons_append, List.nil_append]
      rw [e6] at hq2
      rw [e4, e3, e6, e5, encP_sl nl true _ hq2]
    · have hnl : nl = true := by cases nl <;> simp_all
      have hqs : qs = [] := by cases qs <;> simp_all
      subst hnl hqs
      simp only [encX, encXs, encP_nil] at hget
      simp only [mkP, encXs, encP_nil, cnts, Int.mul_zero, Int.add_zero] at hn
      simp [-St.get, -St.set, r116l0, b116l0, hne, hget, hget2, hset, hset2, hlt, hge, hat, hst, hl2, hw, hw1, hw2, hw3, setS_len, unAgg, ihn, encXs_len, mkP_len]
      rw [hn]
      simp only [mkP, mk1, encXs, encX, encP_nil, hcc, hcn, cnts, Int.add_zero, List.append_assoc, List.cons_append, List.nil_append]
      simp only [cnts] at e4 e3
      have e7 : k + 1 + 1 + 1 = k + 3 * 1 := by omega
      have e8 : k + 1 + 1 + 1 + 3 * cnts rest = k + 3 * (1 + cnts rest) := by omega
      rw [e8, e7, e5]
end Go.Am
end
section
set_option maxRecDepth 10000
set_option linter.unusedSimpArgs false
set_option linter.unusedVariables false
namespace Go.Am
open Go.Proofs
theorem len_cnts : ∀ ps : List Pi, (ps.length : Int) ≤ cnts ps
  | [] => by simp [cnts]
  | p :: ps => by
    have := len_cnts ps
    have := cnt_pos p
    simp only [cnts, List.length_cons, Int.natCast_add, show ((1 : Nat) : Int) = 1 from rfl]
    omega
theorem eqMarkNil (k : Int) : callI G 116 [.nils, .i k] [] = some (.i k, []) := by
  have hlp : loopI G [0, 1, 5] [] c116l0 ⟨[(0, .nils), (1, .i k), (5, .i 0)], [], []⟩ = some (.exit 0, ⟨[(0, .nils), (1, .i k), (5, .i 0), (9, .b false)], [], []⟩) := by
    rw [loopI_eq]
    simp [r116l0, b116l0]
  rw [callI_eq]
  simp [body1_eq _ _ (gp 116) g116, c116, a116, hlp]
theorem markS_of (nl : Bool) (ps : List Pi) (ih : ∀ p ∈ ps, ∀ o x y qs, p = .mk o x y qs → nl = false ∨ qs ≠ [] → ∀ (k : Int), 0 ≤ k → k + 3 * cnts qs ≤ 1152921504606846976 →
      callI G 116 [.own (0, 0) qs.length, .i k] [[(0, .row 4 (encXs nl true qs))]] = some (.i (k + 3 * cnts qs), [[(0, .row 4 (encXs nl true (mkP k qs)))]]))
    (o : Stack) (id : Id) (k : Int) (hid : id.1 < o.length) (hg : getS o id = some (.row 4 (encXs nl true ps))) (hk0 : 0 ≤ k) (hk : k + 3 * cnts ps ≤ 1152921504606846976) :
    callI G 116 [.own id ps.length, .i k] o = some (.i (k + 3 * cnts ps), setS o id (.row 4 (encXs nl true (mkP k ps)))) := by
  have hl := len_cnts ps
  have hlp := loop48 nl id ps.length ps ih eqMarkNil [] k o hid (by simpa using hg) (by simp) (by omega) hk0 hk 0 (by simp)
  simp only [List.nil_append] at hlp
  have hne : ¬ id.1 = o.length := by omega
  rw [callI_eq]
  simp [-St.get, -St.set, body1_eq _ _ (gp 116) g116, c116, a116, hne, hlp]
mutual
theorem eqMarkP (nl : Bool) : ∀ p : Pi, ∀ o x y qs, p = .mk o x y qs → nl = false ∨ qs ≠ [] → ∀ (k : Int), 0 ≤ k → k + 3 * cnts qs ≤ 1152921504606846976 →
      callI G 116 [.own (0, 0) qs.length, .i k] [[(0, .row 4 (encXs nl true qs))]] = some (.i (k + 3 * cnts qs), [[(0, .row 4 (encXs nl true (mkP k qs)))]])
  | .mk o' x' y' qs', o, x, y, qs, e, hq, k, h0, h1 => by
    have e2 : qs = qs' := by injection e with _ _ _ e2; exact e2.symm
    subst e2
    have h := markS_of nl qs (eqMarkPs nl qs) [[(0, OB.row 4 (encXs nl true qs))]] (0, 0) k (by simp) (by simp [getS, getO]) h0 h1
    rw [h]
    simp [setS, setO]
theorem eqMarkPs (nl : Bool) : ∀ ps : List Pi, ∀ p ∈ ps, ∀ o x y qs, p = .mk o x y qs → nl = false ∨ qs ≠ [] → ∀ (k : Int), 0 ≤ k → k + 3 * cnts qs ≤ 1152921504606846976 →
      callI G 116 [.own (0, 0) qs.length, .i k] [[(0, .row 4 (encXs nl true qs))]] = some (.i (k + 3 * cnts qs), [[(0, .row 4 (encXs nl true (mkP k qs)))]])
  | [], p, h => by cases h
  | q :: ps, p, h => by
    rcases List.mem_cons.1 h with h | h
    · rw [h]; exact eqMarkP nl q
    · exact eqMarkPs nl ps p h
end
theorem eqMarkS (nl : Bool) (ps : List Pi) (o : Stack) (id : Id) (k : Int) (hid : id.1 < o.length) (hg : getS o id = some (.row 4 (encXs nl true ps))) (hk0 : 0 ≤ k) (hk : k + 3 * cnts ps ≤ 1152921504606846976) :
    callI G 116 [.own id ps.length, .i k] o = some (.i (k + 3 * cnts ps), setS o id (.row 4 (encXs nl true (mkP k ps)))) := markS_of nl ps (eqMarkPs nl ps) o id k hid hg hk0 hk
/-! #### marked numbers -/
def marks : Int → Nat → List Int
  | _, 0 => []
  | k, n + 1 => k :: marks (k + 1) n
theorem marks_len : ∀ (k : Int) (n : Nat), (marks k n).length = n
  | _, 0 => rfl
  | k, n + 1 => by simp [marks, marks_len _ n]
theorem loopMarkI (id : Id) (N : Nat) (rest : List Int) :
    ∀ (done : List Int) (k : Int) (o : Stack), id.1 < o.length → getS o id = some (.row 1 (ints (done ++ rest))) → N = done.length + rest.length → N ≤ 1152921504606846976 → 0 ≤ k → k + rest.length ≤ 1152921504606846976 → ∀ i : Int, i = done.length →
      ∃ o', loopI G [0, 1, 5] [] c51l0 ⟨[(0, .own id N), (1, .i k), (5, .i i)], [], o⟩ =
        some (.exit 0, ⟨[(0, .own id N), (1, .i (k + rest.length)), (5, .i N), (9, .b false)], [], o'⟩) ∧ (rest = [] → o' = o) ∧ (rest ≠ [] → o' = setS o id (.row 1 (ints (done ++ marks k rest.length)))) := by
  induction rest with
  | nil =>
    intro done k o hid hg hN hNN hk0 hk i hi
    refine ⟨o, ?_, fun _ => rfl, fun h => absurd rfl h⟩
    rw [loopI_eq]
    have hne : ¬ id.1 = o.length := by omega
    have e1 : i = N := by rw [hi, hN]; simp
    have hN' : N = done.length := by simpa using hN
    have hget : ∀ r l, St.get ⟨r, l, o⟩ id = some (.row 1 (ints done)) := fun r l => by rw [get_low hid, hg]; simp
    simp [-St.get, -St.set, r51l0, b51l0, hne, hget, e1, ints_len, hN']
  | cons x rest ih2 =>
    intro done k o hid hg hN hNN hk0 hk i hi
    simp only [List.length_cons] at hk hN
    have hne : ¬ id.1 = o.length := by omega
    have hlt : i < N := by omega
    have hge : 0 ≤ i := by omega
    have htn : i.toNat = done.length := by omega
    have hget : ∀ r l, St.get ⟨r, l, o⟩ id = some (.row 1 (ints (done ++ x :: rest))) := fun r l => by rw [get_low hid, hg]
    have hset : ∀ r l R, St.set ⟨r, l, o⟩ id R = ⟨r, l, setS o id R⟩ := fun r l R => set_low hid
    have hw : IntKind.i64.wrap (i + 1) = i + 1 := wr (by omega)
    have hw1 : IntKind.i64.wrap (k + 1) = k + 1 := wr (by omega)
    have hat := ints_at done x rest
    rw [← htn] at hat
    have hst : (ints (done ++ x :: rest)).set i.toNat (.i k) = ints (done ++ k :: rest) := by
      rw [ints_set, htn, List.set_append_right _ _ (Nat.le_refl _)]
      simp
    have hl2 : done.length + (rest.length + 1) = N := by omega
    obtain ⟨o', hn, h1, h2⟩ := ih2 (done ++ [k]) (k + 1) (setS o id (.row 1 (ints (done ++ k :: rest)))) (by rw [setS_len]; exact hid) (by rw [getS_setS hid]; simp) (by simp; omega) hNN (by omega) (by omega) (i + 1) (by simp; omega)
    refine ⟨o', ?_, fun h => (by cases h), fun _ => ?_⟩
    · rw [loopI_eq]
      simp [-St.get, -St.set, r51l0, b51l0, hne, hget, hset, hlt, hge, hat, hst, hl2, hw, hw1, setS_len, unAgg, ints_len]
      rw [hn]
      have e3 : k + 1 + (rest.length : Int) = k + ((rest.length : Int) + 1) := by omega
      simp [e3]
    · by_cases hr : rest = []
      · subst hr
        rw [h1 rfl]
        simp [marks]
      · rw [h2 hr, setS_setS]
        simp [marks]
theorem eqMarkI (xs : List Int) (hx : xs ≠ []) (hl : xs.length ≤ 1000000) (L : Objs) (d : Nat) (k : Int) (hg : getO L d = some (.row 1 (ints xs))) (hk0 : 0 ≤ k) (hk : k ≤ 1000000) :
    callI G 51 [.own (0, d) xs.length, .i k] [L] = some (.i (k + xs.length), [setO L d (.row 1 (ints (marks k xs.length)))]) := by
  obtain ⟨o', hlp, _, h2⟩ := loopMarkI (0, d) xs.length xs [] k [L] (by simp) (by simpa [getS] using hg) (by simp) (by omega) hk0 (by omega) 0 (by simp)
  rw [h2 hx] at hlp
  simp only [setS, List.nil_append] at hlp
  rw [callI_eq]
  simp [body1_eq _ _ (gp 51) g51, c51, a51, hlp]
theorem eqMarkI0 (k : Int) : callI G 51 [.nils, .i k] [] = some (.i k, []) := by
  have hlp : loopI G [0, 1, 5] [] c51l0 ⟨[(0, .nils), (1, .i k), (5, .i 0)], [], []⟩ = some (.exit 0, ⟨[(0, .nils), (1, .i k), (5, .i 0), (9, .b false)], [], []⟩) := by
    rw [loopI_eq]
    simp [r51l0, b51l0]
  rw [callI_eq]
  simp [body1_eq _ _ (gp 51) g51, c51, a51, hlp]
theorem eqHeldI0 (k : Int) : callI G 52 [.nils, .i k] [] = some (.i k, []) := by
  have hlp : loopI G [0, 1, 5] [] c52l0 ⟨[(0, .nils), (1, .i k), (5, .i 0)], [], []⟩ = some (.exit 0, ⟨[(0, .nils), (1, .i k), (5, .i 0), (9, .b false)], [], []⟩) := by
    rw [loopI_eq]
    simp [r52l0, b52l0]
  rw [callI_eq]
  simp [body1_eq _ _ (gp 52) g52, c52, a52, hlp]
theorem eqEqI0 : callI G 32 [.nils, .nils] [] = some (.b true, []) := by
  have hlp : loopI G [0, 1, 5] [] c32l0 ⟨[(0, .nils), (1, .nils), (5, .i 0)], [], []⟩ = some (.exit 0, ⟨[(0, .nils), (1, .nils), (5, .i 0), (14, .b false)], [], []⟩) := by
    rw [loopI_eq]
    simp [r32l0, b32l0]
  rw [callI_eq]
  simp [body1_eq _ _ (gp 32) g32, c32, a32, hlp]
theorem loopHeldI : ∀ (n : Nat) (done : List Int) (k : Int), 0 ≤ k → k + n ≤ 1152921504606846976 → done.length + n ≤ 1152921504606846976 →
      loopI G [0, 1, 5] [] c52l0 ⟨[(0, .sl false 1 (ints (done ++ marks k n))), (1, .i k), (5, .i done.length)], [], []⟩ =
        some (.exit 0, ⟨[(0, .sl false 1 (ints (done ++ marks k n))), (1, .i (k + n)), (5, .i (done.length + n)), (9, .b false)], [], []⟩)
  | 0, done, k, h0, h1, h2 => by
    rw [loopI_eq]
    simp [r52l0, b52l0, ints_len, marks]
  | n + 1, done, k, h0, h1, h2 => by
    rw [loopI_eq]
    have hat := ints_at done k (marks (k + 1) n)
    have hlt2 : (done.length : Int) < (done.length : Int) + ((n : Int) + 1) := by omega
    have hw : IntKind.i64.wrap ((done.length : Int) + 1) = (done.length : Int) + 1 := wr (by omega)
    have hw1 : IntKind.i64.wrap (k + 1) = k + 1 := wr (by omega)
    have hn := loopHeldI n (done ++ [k]) (k + 1) (by omega) (by omega) (by simp; omega)
    have e1 : k + 1 + (n : Int) = k + ((n : Int) + 1) := by omega
    have e2 : (done.length : Int) + 1 + (n : Int) = (done.length : Int) + ((n : Int) + 1) := by omega
    simp [r52l0, b52l0, ints_len, marks_len, marks, hat, hlt2, hw, hw1]
    simpa [e1, e2] using hn
theorem eqHeldI (n : Nat) (k : Int) (h0 : 0 ≤ k) (h1 : k ≤ 1000000) (hn : n ≤ 1000000) : callI G 52 [.sl false 1 (ints (marks k n)), .i k] [] = some (.i (k + n), []) := by
  have hlp := loopHeldI n [] k h0 (by omega) (by simp; omega)
  simp only [List.nil_append, List.length_nil, show ((0 : Nat) : Int) = 0 from rfl] at hlp
  rw [callI_eq]
  simp [body1_eq _ _ (gp 52) g52, c52, a52, hlp]
end Go.Am
end
section
set_option maxRecDepth 10000
set_option maxHeartbeats 4000000
set_option linter.unusedSimpArgs false
set_option linter.unusedVariables false
namespace Go.Am
open Go.Proofs
/-! marked numbers: the own row of an outer frame; marks that are held -/
def mkI : Int → List Int → List Int
  | _, [] => []
  | k, _ :: l => k :: mkI (k + 1) l
theorem mkI_len : ∀ (k : Int) (l : List Int), (mkI k l).length = l.length
  | _, [] => rfl
  | k, _ :: l => by simp [mkI, mkI_len (k + 1) l]
theorem loopMkIs (id : Id) (N : Nat) (hN : N ≤ 4611686018427387904) : ∀ (rest D : List Int) (k : Int) (o : Stack), id.1 < o.length → getS o id = some (.row 1 (ints (D ++ rest))) → N = D.length + rest.length → 0 ≤ k → k + rest.length ≤ 4611686018427387904 →
    loopI G [0, 1, 5] [] c51l0 ⟨[(0, .own id N), (1, .i k), (5, .i D.length)], [], o⟩ =
      some (.exit 0, ⟨[(0, .own id N), (1, .i (k + rest.length)), (5, .i N), (9, .b false)], [], setS o id (.row 1 (ints (D ++ mkI k rest)))⟩)
  | [], D, k, o, hid, hg, hl, hk0, hk => by
    have hne : ¬ id.1 = o.length := by omega
    simp only [List.append_nil, List.length_nil, Nat.add_zero] at hg hl
    have e2 : setS o id (.row 1 (ints (D ++ mkI k []))) = o := setS_same o id _ (by simpa [mkI] using hg)
    have hget : ∀ r l', St.get ⟨r, l', o⟩ id = some (.row 1 (ints D)) := fun r l' => by rw [get_low hid, hg]
    rw [e2, loopI_eq]
    simp [-St.get, -St.set, r51l0, b51l0, hne, hget, hl, ints_len]
  | x :: rest, D, k, o, hid, hg, hl, hk0, hk => by
    simp only [List.length_cons] at hl hk
    have hne : ¬ id.1 = o.length := by omega
    have hget : ∀ r l', St.get ⟨r, l', o⟩ id = some (.row 1 (ints (D ++ x :: rest))) := fun r l' => by rw [get_low hid, hg]
    have hset : ∀ r l' R, St.set ⟨r, l', o⟩ id R = ⟨r, l', setS o id R⟩ := fun r l' R => set_low hid
    have hlt : (D.length : Int) < N := by omega
    have hlt2 : D.length < N := by omega
    have hw : IntKind.i64.wrap ((D.length : Int) + 1) = (D.length : Int) + 1 := wr (by omega)
    have hwk : IntKind.i64.wrap (k + 1) = k + 1 := wr (by omega)
    have hat := ints_at D x rest
    have hst : (ints (D ++ x :: rest)).set D.length (.i k) = ints ((D ++ [k]) ++ rest) := by rw [ints_set]; simp
    have hml : (ints (D ++ x :: rest)).length = N := by simp [ints_len]; omega
    have hn := loopMkIs id N hN rest (D ++ [k]) (k + 1) (setS o id (.row 1 (ints ((D ++ [k]) ++ rest)))) (by rw [setS_len]; exact hid) (by rw [getS_setS hid]) (by simp; omega) (by omega) (by omega)
    rw [setS_setS] at hn
    have e3 : D ++ mkI k (x :: rest) = (D ++ [k]) ++ mkI (k + 1) rest := by simp [mkI]
    rw [e3]
    simp only [List.length_append, List.length_cons, List.length_nil, Int.natCast_add, show ((0 + 1 : Nat) : Int) = 1 from rfl, show ((1 : Nat) : Int) = 1 from rfl] at hn ⊢
    generalize ints (D ++ x :: rest) = X at hget hat hst hml
    generalize ints ((D ++ [k]) ++ rest) = X2 at hst hn
    generalize ints ((D ++ [k]) ++ mkI (k + 1) rest) = X3 at hn ⊢
    rw [loopI_eq]
    simp [-St.get, -St.set, r51l0, b51l0, hne, hget, hset, hml, hlt, hlt2, hw, hwk, hat, unAgg, hst, setS_len]
    simpa [Int.add_assoc, Int.add_comm 1, Int.add_left_comm] using hn
theorem eqMkIs (id : Id) (l : List Int) (k : Int) (o : Stack) (hid : id.1 < o.length) (hg : getS o id = some (.row 1 (ints l))) (hN : l.length ≤ 1048576) (hk0 : 0 ≤ k) (hk : k ≤ 4398046511104) :
    callI G 51 [.own id l.length, .i k] o = some (.i (k + l.length), setS o id (.row 1 (ints (mkI k l)))) := by
  have hne : ¬ id.1 = o.length := by omega
  have hn := loopMkIs id l.length (by omega) l [] k o hid (by simpa using hg) (by simp) hk0 (by omega)
  simp only [List.nil_append, List.length_nil, show ((0 : Nat) : Int) = 0 from rfl] at hn
  rw [callI_eq]
  simp [-St.get, -St.set, body1_eq _ _ (gp 51) g51, c51, a51, hne, hid, hn, setS_len]
theorem eqMkIsN (k : Int) : callI G 51 [.nils, .i k] [] = some (.i k, []) := by
  have hl : loopI G [0, 1, 5] [] c51l0 ⟨[(0, .nils), (1, .i k), (5, .i 0)], [], []⟩ = some (.exit 0, ⟨[(0, .nils), (1, .i k), (5, .i 0), (9, .b false)], [], []⟩) := by
    rw [loopI_eq]
    simp [r51l0, b51l0]
  rw [callI_eq]
  simp [body1_eq _ _ (gp 51) g51, c51, a51, hl]
theorem loopHlIs : ∀ (l : List Int) (D : List Int) (k0 k : Int), (D.length + l.length ≤ 4611686018427387904) → 0 ≤ k → k + l.length ≤ 4611686018427387904 →
    loopI G [0, 1, 5] [] c52l0 ⟨[(0, .sl false 1 (ints (D ++ mkI k l))), (1, .i k), (5, .i D.length)], [], []⟩ =
      some (.exit 0, ⟨[(0, .sl false 1 (ints (D ++ mkI k l))), (1, .i (k + l.length)), (5, .i (D.length + l.length)), (9, .b false)], [], []⟩)
  | [], D, k0, k, h, hk0, hk => by
    simp only [mkI, List.append_nil]
    have hdl : (ints D).length = D.length := ints_len D
    generalize ints D = X at hdl ⊢
    rw [loopI_eq]
    simp [r52l0, b52l0, hdl]
  | x :: l, D, k0, k, h, hk0, hk => by
    simp only [List.length_cons] at h hk
    have hw : IntKind.i64.wrap ((D.length : Int) + 1) = (D.length : Int) + 1 := wr (by omega)
    have hwk : IntKind.i64.wrap (k + 1) = k + 1 := wr (by omega)
    have hat := ints_at D k (mkI (k + 1) l)
    have hml : (ints (D ++ k :: mkI (k + 1) l)).length = D.length + (l.length + 1) := by simp [mkI_len, ints_len]
    have hlt : (D.length : Int) < (D.length : Int) + ((l.length : Int) + 1) := by omega
    have hlt2 : D.length < D.length + (l.length + 1) := by omega
    have hn := loopHlIs l (D ++ [k]) k0 (k + 1) (by simp; omega) (by omega) (by omega)
    have e1 : D ++ [k] ++ mkI (k + 1) l = D ++ k :: mkI (k + 1) l := by simp
    rw [e1] at hn
    simp only [mkI, List.length_append, List.length_cons, List.length_nil, Int.natCast_add, show ((0 + 1 : Nat) : Int) = 1 from rfl, show ((1 : Nat) : Int) = 1 from rfl] at hn ⊢
    generalize ints (D ++ k :: mkI (k + 1) l) = X at hat hml hn ⊢
    rw [loopI_eq]
    simp [r52l0, b52l0, hat, hml, hlt, hlt2, hw, hwk]
    simpa [Int.add_assoc, Int.add_comm 1, Int.add_left_comm] using hn
theorem eqHlIs (l : List Int) (k : Int) (hN : l.length ≤ 1048576) (hk0 : 0 ≤ k) (hk : k ≤ 4398046511104) :
    callI G 52 [.sl false 1 (ints (mkI k l)), .i k] [] = some (.i (k + l.length), []) := by
  have hn := loopHlIs l [] 0 k (by simp; omega) hk0 (by omega)
  simp only [List.nil_append, List.length_nil, show ((0 : Nat) : Int) = 0 from rfl] at hn
  rw [callI_eq]
  generalize ints (mkI k l) = X at hn ⊢
  simp [body1_eq _ _ (gp 52) g52, c52, a52, hn]
theorem eqHlIsN (k : Int) : callI G 52 [.nils, .i k] [] = some (.i k, []) := by
  have hl : loopI G [0, 1, 5] [] c52l0 ⟨[(0, .nils), (1, .i k), (5, .i 0)], [], []⟩ = some (.exit 0, ⟨[(0, .nils), (1, .i k), (5, .i 0), (9, .b false)], [], []⟩) := by
    rw [loopI_eq]
    simp [r52l0, b52l0]
  rw [callI_eq]
  simp [body1_eq _ _ (gp 52) g52, c52, a52, hl]
theorem eqEqIsN : callI G 32 [.nils, .nils] [] = some (.b true, []) := by
  have hl : loopI G [0, 1, 5] [] c32l0 ⟨[(0, .nils), (1, .nils), (5, .i 0)], [], []⟩ = some (.exit 0, ⟨[(0, .nils), (1, .nils), (5, .i 0), (14, .b false)], [], []⟩) := by
    rw [loopI_eq]
    simp [r32l0, b32l0]
  rw [callI_eq]
  simp [body1_eq _ _ (gp 32) g32, c32, a32, hl]
theorem getO_setO_ne' {d e : Nat} (h : d ≠ e) (ob : OB) : ∀ l : Objs, getO (setO l d ob) e = getO l e
  | [] => by simp [setO, getO, h]
  | (k, v) :: l => by
    simp only [setO]
    split
    · rename_i hk
      subst hk
      simp [getO, h]
    · simp only [getO, getO_setO_ne' h ob l]
theorem eqMarkPool (ss : List Int) (ms : List Pi) (L : Objs) (d1 d2 : Nat) (hd : d1 ≠ d2) (k : Int) (h1 : getO L d1 = some (.row 1 (ints ss))) (h2 : getO L d2 = some (.row 4 (encUs ms))) (hs : ss.length ≤ 1048576) (hk0 : 0 ≤ k) (hk : k ≤ 1048576) (hm : cnts ms ≤ 1048576) :
    callI G 57 [.agg [.own (0, d1) ss.length, .own (0, d2) ms.length], .i k] [L] = some (.i (k + ss.length + 3 * cnts ms), [setO (setO L d1 (.row 1 (ints (mkI k ss)))) d2 (.row 4 (encUs (mkP (k + ss.length) ms)))]) := by
  have hc := cnts_pos ms
  have c1 := fun B : Objs => eqMkIs (0, d1) ss k [L, B] (by simp) (by simpa [getS] using h1) hs hk0 (by omega)
  have c2 := fun B : Objs => eqMarkS false ms [setO L d1 (.row 1 (ints (mkI k ss))), B] (0, d2) (k + ss.length) (by simp) (by simp [getS, getO_setO_ne' hd, h2, encUs_X]) (by omega) (by omega)
  simp only [show ∀ (L B : Objs) (d : Nat) (ob : OB), setS [L, B] (0, d) ob = [setO L d ob, B] from fun _ _ _ _ => rfl] at c1 c2
  rw [encUs_X]
  rw [callI_eq]
  simp [body1_eq _ _ (gp 57) g57, c57, a57, c1, c2]
/-- The names that a pool offers. -/
def pb (k : Int) (ss : List Int) (ms : List Pi) : List Int := if poolS ss ms = true then upF (fun n => hasM k n ms) 6 0 else []
theorem pool_mem {ss : List Int} {ms : List Pi} (h : poolS ss ms = true) : ∀ p ∈ ms, shape p = true ∧ cnt p ≤ 14 := by
  intro p hp
  simp only [poolS, Bool.and_eq_true, List.all_eq_true] at h
  have h2 := h.2.2 p hp
  simp only [mokS, ok, Bool.and_eq_true, decide_eq_true_eq] at h2
  refine ⟨h2.1.1.2, ?_⟩
  have h3 := h2.1.1.1
  have h4 := pn_cnt p 14 (by omega)
  by_cases hc : cnt p ≤ 14
  · exact hc
  · have := h4.2 (by omega); omega
theorem pb_len (k : Int) (ss : List Int) (ms : List Pi) : (pb k ss ms).length ≤ 6 := by
  unfold pb
  split
  · exact upF_len _ _ _
  · simp
theorem eqPoolBarbsI (ss : List Int) (ms : List Pi) (hl : ss.length ≤ 9223372036854775807) (hm : ms.length ≤ 1048576) (hf : Fits ms) : callI G 56 [encPool ss ms] [] = some (.tup [encI (pb 1 ss ms), encI (pb 2 ss ms)], []) := by
  have h1 := eqPoolOkI ss ms hl (by omega) hf
  rw [← pool_same] at h1
  rw [callI_eq]
  unfold pb
  by_cases hp : poolS ss ms = true
  · have hs := pool_mem hp
    have b1 := eqBarbs 1 ss ms hf hs hm
    have b2 := eqBarbs 2 ss ms hf hs hm
    rw [barbs_same 1 (.inl rfl) ms fun m h => (hs m h).1] at b1
    rw [barbs_same 2 (.inr rfl) ms fun m h => (hs m h).1] at b2
    rw [hp] at h1
    simp only [hp, if_true]
    generalize upF (fun n => hasM 1 n ms) 6 0 = L1 at b1 ⊢
    generalize upF (fun n => hasM 2 n ms) 6 0 = L2 at b2 ⊢
    cases L1 <;> cases L2 <;> (simp only [encI] at b1 b2; simp [body1_eq _ _ (gp 56) g56, c56, a56, h1, b1, b2, encI])
  · have hp : poolS ss ms = false := by simpa using hp
    rw [hp] at h1
    simp [body1_eq _ _ (gp 56) g56, c56, a56, h1, hp, encI]
theorem eqPoolBarbsS (ss : List Int) (ms : List Pi) (hl : ss.length ≤ 9223372036854775807) (hm : ms.length ≤ 1048576) (hf : Fits ms) : callI G 55 [encPool ss ms] [] = some (.tup [encI (pb 1 ss ms), encI (pb 2 ss ms)], []) := by
  have h1 := eqPoolOkS ss ms hl (by omega) hf
  unfold pb
  by_cases hp : poolS ss ms = true
  · have hs := pool_mem hp
    have hlp := loopSb2 ss hl ms hm hf hs hp 6 0 [] [] (by omega) (by omega) (by simp) (by simp)
    simp only [hp, if_true]
    simp only [List.nil_append, oP_n, oL_n] at hlp
    generalize upF (fun n => hasM 1 n ms) 6 0 = L1 at hlp ⊢
    generalize upF (fun n => hasM 2 n ms) 6 0 = L2 at hlp ⊢
    rw [callI_eq]
    cases L1 <;> cases L2 <;> (simp only [oP_n, oL_n, oP_c, oL_c, List.nil_append, List.append_nil, List.cons_append] at hlp; simp [body1_eq _ _ (gp 55) g55, c55, a55, hlp, encI, ints, map_ints, ints_len])
  · have hp : poolS ss ms = false := by simpa using hp
    rw [hp] at h1
    have hlp : loopI G [1, 4, 5, 6] [1, 12, 13, 81, 86] c55l2 ⟨[(1, .ref (0, 1) 1 0 0), (4, .nils), (5, .nils), (6, .i 0)], [(1, .box [.sl false 1 (ints ss), .sl false 4 (encs ms)])], []⟩ = some (.exit 0, ⟨[(1, .ref (0, 1) 1 0 0), (4, .nils), (5, .nils), (6, .i 0), (19, .b false)], [(1, .box [.sl false 1 (ints ss), .sl false 4 (encs ms)])], []⟩) := by
      rw [loopI_eq]
      simp [r55l2, b55l2, h1]
    rw [callI_eq]
    simp [body1_eq _ _ (gp 55) g55, c55, a55, hlp, hp, encI]
end Go.Am
end
section
set_option maxRecDepth 10000
set_option maxHeartbeats 4000000
set_option linter.unusedSimpArgs false
set_option linter.unusedVariables false
namespace Go.Am
open Go.Proofs
mutual
theorem szPi_cnt : ∀ (p : Pi) (l : Int), 0 ≤ l → 0 ≤ szPi p l → szPi p l = l + 1 - cnt p
  | .mk o x y ps, l, h, hs => by
    simp only [szPi] at hs ⊢
    split at hs
    · omega
    · rename_i h2
      rw [if_neg h2]
      have := szL_cnt ps (l - ps.length) (by omega) hs
      simp only [cnt]
      omega
theorem szL_cnt : ∀ (ps : List Pi) (l : Int), 0 ≤ l → 0 ≤ szL ps l → szL ps l = l + ps.length - cnts ps
  | [], l, h, hs => by simp [szL, cnts]
  | p :: ps, l, h, hs => by
    simp only [szL] at hs ⊢
    split at hs
    · omega
    · rename_i h2
      rw [if_neg h2]
      have h1 := szPi_cnt p l h (by omega)
      have := szL_cnt ps (szPi p l) (by omega) hs
      simp only [cnts, List.length_cons]
      omega
end
theorem szPool_big {ss : List Int} {ms : List Pi} (h : ¬ szPool ss ms 1048576 < 0) : ss.length ≤ 1048576 ∧ ms.length ≤ 1048576 ∧ cnts ms ≤ 1048576 := by
  unfold szPool at h
  have h1 : ¬ szI ss.length 1048576 < 0 → szI ss.length 1048576 = 1048576 - ss.length := by unfold szI; split <;> omega
  split at h
  · omega
  · rename_i h2
    have h3 := h1 h2
    split at h
    · omega
    · rename_i h4
      split at h
      · omega
      · rename_i h5
        have := szL_cnt ms (szI ss.length 1048576 - ms.length) (by omega) (by omega)
        omega
theorem lawPoolBarbs (ss : List Int) (ms : List Pi) (hl : ss.length ≤ 9223372036854775807) (hm : ms.length ≤ 9223372036854775807) (hf : Fits ms) : callI G 13 [encPool ss ms] [] = some (.b true, []) := by
  have hz := eqSzPool ss ms 1048576 (by omega) (by omega) hl hm hf
  rw [callI_eq]
  by_cases hs : szPool ss ms 1048576 < 0
  · simp [body1_eq _ _ (gp 13) g13, c13, a13, hz, hs]
  · obtain ⟨q1, q2, q3⟩ := szPool_small ss ms 1048576 (by omega) (by omega) hs
    obtain ⟨r1, r2, r3⟩ := szPool_big hs
    have ht := eqToPool ss ms q1 q2 q3
    have h1 := eqPoolBarbsS ss ms hl r2 hf
    have h2 := eqPoolBarbsI ss ms hl r2 hf
    have h3 := eqEqPool ss ms hl hm hf
    have hcp := cnts_pos ms
    have hMP := fun (Lo : Objs) h1 h2 => eqMarkPool ss ms Lo 26 1026 (by omega) 1 h1 h2 r1 (by omega) (by omega) r3
    have hk : ¬ (1 + (ss.length : Int) + 3 * cnts ms < 0) := by omega
    have l1 := pb_len 1 ss ms
    have l2 := pb_len 2 ss ms
    generalize pb 1 ss ms = L1 at h1 h2 l1
    generalize pb 2 ss ms = L2 at h1 h2 l2
    have E0 := eqEqIsN
    have M0 := fun k => eqMkIsN k
    have H0 := fun k => eqHlIsN k
    have E1 := eqEqIntS L1 (by omega)
    have E2 := eqEqIntS L2 (by omega)
    have M1 := fun (Lo : Objs) (h : getO Lo 29 = some (.row 1 (ints L1))) => eqMkIs (0, 29) L1 1 [Lo] (by simp) h (by omega) (by omega) (by omega)
    have M2 := fun (Lo : Objs) (k : Int) (h0 : 0 ≤ k) (h1 : k ≤ 7) (h : getO Lo 1029 = some (.row 1 (ints L2))) => eqMkIs (0, 1029) L2 k [Lo] (by simp) h (by omega) h0 (by omega)
    have M2n := fun (Lo : Objs) (h : getO Lo 29 = some (.row 1 (ints L2))) => eqMkIs (0, 29) L2 1 [Lo] (by simp) h (by omega) (by omega) (by omega)
    simp only [show ∀ (Lo : Objs) (d : Nat) (ob : OB), setS [Lo] (0, d) ob = [setO Lo d ob] from fun _ _ _ => rfl] at M1 M2 M2n
    have H1 := eqHlIs L1 1 (by omega) (by omega) (by omega)
    have H2 := fun (k : Int) (h0 : 0 ≤ k) (h1 : k ≤ 7) => eqHlIs L2 k (by omega) h0 (by omega)
    have k1 : ¬ (1 + (L1.length : Int) < 0) := by omega
    have k2 : ¬ (1 + (L1.length : Int) + (L2.length : Int) < 0) := by omega
    have k3 : ¬ (1 + (L2.length : Int) < 0) := by omega
    have M2a := fun Lo => M2 Lo 1 (by omega) (by omega)
    have M2b := fun Lo => M2 Lo (1 + (L1.length : Int)) (by omega) (by omega)
    have H2a := H2 1 (by omega) (by omega)
    have H2b := H2 (1 + (L1.length : Int)) (by omega) (by omega)
    cases L1 with
    | nil =>
      cases L2 with
      | nil =>
        simp only [encI] at h1 h2
        simp [body1_eq _ _ (gp 13) g13, c13, a13, hz, hs, ht, h1, h2, h3, fals_encU, encUs_len, ints_len, fals_ints, E0, M0, H0, hMP, hk, noShares_ints]
      | cons b L2 =>
        have e2 : encI (b :: L2) = .sl true 1 (ints (b :: L2)) := rfl
        rw [e2] at h1 h2
        generalize b :: L2 = L2 at *
        simp only [encI] at h1 h2
        simp [body1_eq _ _ (gp 13) g13, c13, a13, hz, hs, ht, h1, h2, h3, fals_encU, encUs_len, ints_len, fals_ints, E0, M0, H0, hMP, hk, noShares_ints, E2, M2n, H2a, k3, mkI_len]
    | cons a L1 =>
      have e1 : encI (a :: L1) = .sl true 1 (ints (a :: L1)) := rfl
      rw [e1] at h1 h2
      generalize a :: L1 = L1 at *
      cases L2 with
      | nil =>
        simp only [encI] at h1 h2
        simp [body1_eq _ _ (gp 13) g13, c13, a13, hz, hs, ht, h1, h2, h3, fals_encU, encUs_len, ints_len, fals_ints, E0, M0, H0, hMP, hk, noShares_ints, E1, M1, H1, k1, mkI_len]
      | cons b L2 =>
        have e2 : encI (b :: L2) = .sl true 1 (ints (b :: L2)) := rfl
        rw [e2] at h1 h2
        generalize b :: L2 = L2 at *
        simp [body1_eq _ _ (gp 13) g13, c13, a13, hz, hs, ht, h1, h2, h3, fals_encU, encUs_len, ints_len, fals_ints, E0, M0, H0, hMP, hk, noShares_ints, E1, M1, H1, k1, k2, k3, E2, M2b, H2b, mkI_len]
end Go.Am
end
