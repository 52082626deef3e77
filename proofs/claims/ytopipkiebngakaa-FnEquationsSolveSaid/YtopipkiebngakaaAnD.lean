/- An abstract machine; its steps are those of the model. -/
import Derived.Test.YtopipkiebngakaaAnC
import Derived.Shelf.SlSortCmp.NoneTotal
import Derived.Shelf.Sort.Plain
import Derived.Shelf.Slices.In.SortNone
section
/- slices.SortFunc at pairs of numbers,by the library's contract. -/
set_option linter.unusedSimpArgs false
set_option linter.unusedVariables false
namespace Go.Am
open Go.RowKit Go.Shelf Go.Lib Go.Sort Go.Proofs
def mvP (x : Int × Int) : PV := .agg [.i x.1,.i x.2]
def encM (x : Int × Int) : List Value := [.int .i64 x.1,.int .i64 x.2]
def unM : PV → Option (Int × Int)
  | .agg [.sc (.int .i64 a),.sc (.int .i64 b)] => some (a,b)
  | _ => none
def unMs : List PV → Option (List (Int × Int))
  | [] => some []
  | x :: xs => match unM x,unMs xs with | some a,some r => some (a :: r) | _,_ => none
theorem unM_eq {x : PV} {a : Int × Int} (h : unM x = some a) : x = mvP a := by
  unfold unM at h
  split at h
  · simp only [Option.some.injEq] at h; subst h; rfl
  · cases h
theorem unMs_eq : ∀ {xs : List PV} {ds : List (Int × Int)},unMs xs = some ds → xs = ds.map mvP
  | [],_,h => by simp only [unMs,Option.some.injEq] at h; subst h; rfl
  | x :: xs,_,h => by
    simp only [unMs] at h
    split at h
    · rename_i a r h1 h2
      simp only [Option.some.injEq] at h
      subst h
      rw [List.map_cons,← unM_eq h1,← unMs_eq h2]
    · cases h
@[simp] theorem unM_mvP (a : Int × Int) : unM (mvP a) = some a := rfl
@[simp] theorem unMs_map : ∀ ds : List (Int × Int),unMs (ds.map mvP) = some ds
  | [] => rfl
  | a :: ds => by simp [unMs,unMs_map ds]
def sortP (g : Nat) (lt : Int × Int → Int × Int → Bool) : List PV → Stack → Option (PV × Stack)
  | [.nils,.clo g' []],o => if g' = g then some (.tup [],o) else none
  | [.own id n,.clo g' []],o => if g' = g ∧ n < 4611686018427387904 then match getS o id with
      | some (.row k xs) => if k = 2 ∧ n = xs.length then match unMs xs with
          | some ds => some (.tup [],setS o id (.row 2 ((ds.mergeSort fun x y => !lt y x).map mvP)))
          | none => none
        else none
      | _ => none
    else none
  | _,_ => none
theorem Rs_mv {c : Ctx} {S : Sto} {h : Hp} : ∀ {ds : List (Int × Int)} {vs : List Value} {f : List Nat},Rs c S h (ds.map mvP) vs f ↔ vs = ds.flatMap encM ∧ f = []
  | [],vs,f => Iff.rfl
  | a :: ds,vs,f => by
    constructor
    · rintro ⟨v1,v2,f1,f2,rfl,rfl,r1,r2⟩
      obtain ⟨rfl,rfl⟩ := Rs_mv.1 r2
      obtain ⟨_,u1,u2,g1,g2,rfl,rfl,⟨rfl,rfl,_⟩,u3,u4,g3,g4,rfl,rfl,⟨rfl,rfl,_⟩,rfl,rfl⟩ := r1
      exact ⟨rfl,rfl⟩
    · rintro ⟨rfl,rfl⟩
      refine ⟨encM a,ds.flatMap encM,[],[],rfl,rfl,⟨rfl,[.int .i64 a.1],[.int .i64 a.2],[],[],rfl,rfl,⟨rfl,rfl,rfl⟩,[.int .i64 a.2],[],[],[],rfl,rfl,⟨rfl,rfl,rfl⟩,rfl,rfl⟩,Rs_mv.2 ⟨rfl,rfl⟩⟩
theorem flat_at : ∀ (ds : List (Int × Int)) (j : Nat),j < ds.length * 2 → (ds.flatMap encM)[j]? = some (encM ds.toArray[j / 2]!)[j % 2]!
  | [],j,h => by simp at h
  | a :: ds,0,h => by simp [encM]
  | a :: ds,1,h => by simp [encM]
  | a :: ds,j + 2,h => by
    simp only [List.length_cons] at h
    have ih := flat_at ds j (by omega)
    have e1 : (j + 2) / 2 = j / 2 + 1 := by omega
    have e2 : (j + 2) % 2 = j % 2 := by omega
    simp only [List.flatMap_cons]
    rw [List.getElem?_append_right (by simp [encM]),e1,e2]
    simp only [show (encM a).length = 2 from rfl,Nat.add_sub_cancel,ih]
    congr 2
    have : j / 2 < ds.length := by omega
    simp [this]
theorem flat_len (ds : List (Int × Int)) : (ds.flatMap encM).length = ds.length * 2 := by
  induction ds with
  | nil => rfl
  | cons a ds ih => simp [encM,ih]; omega
section
variable {P : Program}
theorem isGo.enters {f : Nat} (hgo : isGo P f) : ∀ args w,(callFunc f args).run P w = .ok (.enter f args) w := by
  intro args w
  obtain ⟨fn,h1,h2,h3⟩ := hgo
  have h4 : fn.body.isNone = false := by cases hb : fn.body <;> simp [hb] at h2 ⊢
  have h5 : ¬ fn.body = none := fun h => by rw [h] at h2; cases h2
  simp [callFunc,h1,h3,h4,h5]
theorem grown_of {W w' : World} (hg : Grew W w') (hb : ∀ b o,hp W b = some o → hp w' b = some o) : ∃ q os',w' = grow (W.drewN q) os' := by
  refine ⟨w'.drawn - W.drawn,w'.heap.extract W.heap.size w'.heap.size, ?_⟩
  have h1 := hg.os; have h2 := hg.tape; have h3 := hg.output; have h4 := hg.size; have h5 := hg.dr
  have hh : w'.heap = W.heap ++ w'.heap.extract W.heap.size w'.heap.size := by
    apply Array.ext_getElem?
    intro i
    by_cases hi : i < W.heap.size
    · rw [Array.getElem?_append_left hi]
      have := hb i W.heap[i] (by simp [hp,hi])
      simp only [hp] at this
      rw [this]; simp [hi]
    · rw [Array.getElem?_append_right (by omega)]
      simp only [Array.getElem?_extract]
      split
      · congr 1; omega
      · rw [Array.getElem?_eq_none (by omega)]
  have hd : w'.drawn = W.drawn + (w'.drawn - W.drawn) := by omega
  cases w'; cases W
  simp only [grow,World.drewN] at *
  subst h1 h2 h3
  congr 1
theorem lays_of {g : Nat} {x y : Int × Int} {r : Int} (hg : Good P g [mvP x,mvP y] [] (.i r) []) (W : World) :
    Calls P g #[.agg (encM x).toArray,.agg (encM y).toArray] W fun e w' => e = .returned (.int .i64 r) ∧ ∃ q os',w' = grow (W.drewN q) os' := by
  have hv : ∀ z : Int × Int,RVal (cAll W) (gt []) (hp W) (mvP z) (.agg (encM z).toArray) := fun z => ⟨encM z,rfl,rfl,⟨[.int .i64 z.1],[.int .i64 z.2],[],[],rfl,rfl,⟨rfl,rfl,rfl⟩,[.int .i64 z.2],[],[],[],rfl,rfl,⟨rfl,rfl,rfl⟩,rfl,rfl⟩⟩
  refine (hg.2 (cAll W) (fun _ => []) W _ (cAll_ok W) ⟨_,_,rfl,hv x,_,_,rfl,hv y,rfl⟩).mono fun e w' hend => ?_
  obtain ⟨_,v,c',fp',f',rfl,hgw,hst,hadv,hfr,hret⟩ := hend
  have hv' : v = .int .i64 r := by
    have h : [v] = [Value.int .i64 r] := hret.2.1
    simpa using h
  subst hv'
  exact ⟨rfl,grown_of hgw fun b o hb => hst.okF b o (.inl (hadv.F b o hb))⟩
theorem sortP_good {ρ : Ren} (L : SlLaysF0.n6 P ρ) (aE : ∀ w,(isAgg (ρ.t 24)).run P w = .ok true w) (zE : ∀ w,(Go.sizeOf (ρ.t 24)).run P w = .ok 2 w) (hgo : isGo P (ρ.f 6)) {g : Nat} {cf : Int × Int → Int × Int → Int} (hO : SWO (ltOf cf))
    (hT : ∀ x y,(ltOf cf) x y = false → (ltOf cf) y x = false → x = y) (hc : ∀ x y,Good P g [mvP x,mvP y] [] (.i (cf x y)) []) {args : List PV} {o o' : Stack} {r : PV} (e : sortP g (ltOf cf) args o = some (r,o')) : Good P (ρ.f 6) args o r o' := by
  refine ⟨hgo,fun c fp w vals ok hr => ?_⟩
  unfold sortP at e
  split at e
  · -- nil
    rename_i g'
    split at e
    · rename_i hg
      subst hg
      simp only [Option.some.injEq,Prod.mk.injEq] at e
      obtain ⟨rfl,rfl⟩ := e
      obtain ⟨v,_,rfl,⟨_,A,hv⟩,u,_,rfl,⟨_,cv,hu,_,hcv⟩,rfl⟩ := hr
      have hv : v = .slice A 0 0 := by simpa using hv
      subst hv
      refine (AnyF.slices_SortFunc_none L A 0 u w).mono fun e w' hend => ?_
      obtain ⟨rfl,rfl⟩ := hend
      exact ⟨⟨rfl,fun id ob h => ⟨ob,h⟩⟩,_,c,fp,[],rfl,Grew.refl _,ok,Adv.refl _ _,Free.nil,[],rfl,rfl,rfl⟩
    · cases e
  · -- a row
    rename_i id n g'
    split at e
    · rename_i hg
      obtain ⟨rfl,hn⟩ := hg
      split at e
      · rename_i k xs hs
        split at e
        · rename_i hk
          obtain ⟨rfl,rfl⟩ := hk
          split at e
          · rename_i ds hds
            simp only [Option.some.injEq,Prod.mk.injEq] at e
            obtain ⟨rfl,rfl⟩ := e
            obtain rfl := unMs_eq hds
            rw [← gt_getS] at hs
            have hid : id.1 < o.length := gt_lv o id _ hs
            obtain ⟨v,_,rfl,hv,u,_,rfl,hu,rfl⟩ := hr
            obtain ⟨_,v',ev,_,hv⟩ := (show R c (gt o) (hp w) (.own id (ds.map mvP).length) [v] [] from hv)
            have : v = v' := by simpa using ev
            subst this
            obtain ⟨_,cv,hu,_,hcv⟩ := (show R c (gt o) (hp w) (.clo g' []) [u] [] from hu)
            have hcv : cv = [] := hcv.1
            subst hcv
            have hu : u = .func (.func g') #[] #[] := by simpa using hu
            subst hu
            simp only [OwnOK,hs] at hv
            have hv := hv.2 trivial
            subst hv
            simp only [List.length_map] at hn ⊢
            obtain ⟨htr,hkr,ro⟩ := ok.ob id _ hs
            generalize hsd : (ds.mergeSort fun x y => !ltOf cf y x) = ds'
            have hsl : ds'.length = ds.length := by rw [← hsd]; exact List.length_mergeSort _
            have hres : ∀ vs',vs' = [Value.slice (c.L id).base ds.length (c.L id).cap,.func (.func g') #[] #[]] → vs'.toArray = #[Value.slice (c.L id).base ds.length (c.L id).cap,.func (.func g') #[] #[]] := fun _ h => by rw [h]
            rcases ro with ⟨hx,hcap,hfp⟩ | ⟨fq,hb,⟨cur,et,wsr,g1,g2,g3,g4,g5,g6⟩,hfp⟩
            · have hd0 : ds = [] := by simpa using hx
              subst hd0
              have : ds' = [] := List.length_eq_zero_iff.1 hsl
              subst this
              have hsame : setS o id (.row 2 ([].map mvP)) = o := setS_same o id _ (by rw [← gt_getS]; exact hs)
              rw [hsame]
              refine (AnyF.slices_SortFunc_none L _ _ _ w).mono fun e w' hend => ?_
              obtain ⟨rfl,rfl⟩ := hend
              exact ⟨⟨rfl,fun id ob h => ⟨ob,h⟩⟩,_,c,fp,[],rfl,Grew.refl _,ok,Adv.refl _ _,Free.nil,[],rfl,rfl,rfl⟩
            · obtain ⟨rfl,rfl⟩ := Rs_mv.1 g5
              simp only [List.length_map] at g2 g6
              have hlt := hp_lt g1
              have hcurat : ∀ j,j < ds.length * 2 → cur[j]? = some (encM ds.toArray[j / 2]!)[j % 2]! := fun j hj => by
                rw [← flat_at ds j hj,← g6,List.getElem?_take,if_pos hj]; simp
              have hH : HoldsK encM 2 w (c.L id).blk 0 ds.toArray := by
                intro j hj
                simp only [size_flatK,List.size_toArray] at hj
                refine ⟨?_, ?_⟩
                · rw [Nat.zero_add,cell_of_block g1,hcurat j hj,get_flatK encM 2 ds.toArray j (by simpa using hj)]
                  rfl
                · have : w.heap[(c.L id).blk]? = some (.cells cur et (0,0)) := g1
                  simp [World.frozen?,this]
              have hcmp : CmpLays P g' #[] encM 2 cf (c.L id).blk 0 ds.toArray.size w := fun _ _ _ _ x y => lays_of (hc x y) _
              have hcon := AnyQ.slices_SortFunc_total L 2 aE zE encM (fun _ => rfl) (fun x v hv => by simp [encM] at hv; rcases hv with rfl | rfl <;> rfl) cf hO g' #[] (c.L id).blk 0 (c.L id).cap ds.toArray w (hc default default).1.enters hcmp hH hlt (by simpa using hn) hT
              rw [hb]
              have hargs : ([Value.slice (some ⟨(c.L id).blk,0,none⟩) ds.length (c.L id).cap,.func (.func g') #[] #[]] : List Value).toArray = #[Value.slice (some ⟨(c.L id).blk,0,none⟩) ds.toArray.size (c.L id).cap,.func (.func g') #[] #[]] := by simp
              rw [hargs]
              refine hcon.mono fun e w' hend => ?_
              obtain ⟨rfl,m,os,rfl⟩ := hend
              simp only [List.toList_toArray,hsd]
              -- the new world
              have hheap : ∀ b,b < w.heap.size → hp (sortWorldK encM 2 w (c.L id).blk 0 m ds'.toArray os) b = if (c.L id).blk = b then (hp w b).map (onCells (Go.Sort.putCells _root_.id 0 (flatK encM 2 ds'.toArray))) else hp w b := by
                intro b hb'
                simp only [sortWorldK,putRowK,putRow,mapBlock,grow,hp,Sort.ahead]
                rw [Array.getElem?_append_left (by simpa using hb'),Array.getElem?_modify]
              have hother : ∀ b,b < w.heap.size → b ≠ (c.L id).blk → hp (sortWorldK encM 2 w (c.L id).blk 0 m ds'.toArray os) b = hp w b := fun b hb' hne => by rw [hheap b hb',if_neg (Ne.symm hne)]
              have hblk := hheap _ hlt
              rw [if_pos rfl,g1] at hblk
              simp only [Option.map_some,onCells] at hblk
              generalize hcur' : Go.Sort.putCells _root_.id 0 (flatK encM 2 ds'.toArray) cur = cur' at hblk
              have hsz' : cur'.size = cur.size := by rw [← hcur']; simp [Go.Sort.putCells]
              have htake : cur'.toList.take (ds'.length * 2) = ds'.flatMap encM := by
                apply List.ext_getElem?
                intro j
                rw [List.getElem?_take]
                by_cases hj : j < ds'.length * 2
                · rw [if_pos hj,flat_at ds' j hj,← hcur']
                  have hjc : j < cur.size := by
                    have := Nat.mul_le_mul_right 2 g2
                    omega
                  simp only [Go.Sort.putCells,Array.getElem?_toList,Array.getElem?_mapIdx,Array.getElem?_eq_getElem hjc,Option.map_some,Nat.zero_le,true_and,Nat.zero_add,size_flatK,List.size_toArray,hj,if_true,Nat.sub_zero,Option.some.injEq]
                  rw [get_flatK encM 2 ds'.toArray j (by simpa using hj)]
                  rfl
                · rw [if_neg hj,List.getElem?_eq_none (by rw [flat_len]; omega)]
              have hfz : ∀ a : Addr,a.block < w.heap.size → (sortWorldK encM 2 w (c.L id).blk 0 m ds'.toArray os).frozen? a = w.frozen? a := by
                intro a ha
                have h1 := hheap a.block ha
                simp only [hp] at h1
                by_cases hab : (c.L id).blk = a.block
                · have h2 : w.heap[a.block]? = some (.cells cur et (0,0)) := by rw [← hab]; exact g1
                  rw [if_pos hab,h2] at h1
                  simp only [Option.map_some,onCells] at h1
                  simp only [World.frozen?,h1,h2]
                · rw [if_neg hab] at h1
                  simp only [World.frozen?,h1]
              have ha : Adv c (setL c id (c.L id)) (gt o) (upd (gt o) id (.row 2 (ds'.map mvP))) := Adv.row hs (by simp [hsl]) (fun _ => rfl)
              have hfq : (c.L id).blk ∈ fp id := by rw [hfp]; exact List.mem_cons_self
              have hst : StOK (setL c id (c.L id)) (upd (gt o) id (.row 2 (ds'.map mvP))) (hp (sortWorldK encM 2 w (c.L id).blk 0 m ds'.toArray os)) (setF fp id [(c.L id).blk]) := by
                refine ok.reset hs ha ?_ (by simp) (fun b hb' => ?_) (fun b hb' hb2 => hother b hb' (fun e => hb2 (by rw [e]; exact hfq)))
                · refine ⟨?_, ?_,.inr ⟨[],by simpa [setL] using hb,⟨cur',et,ds'.flatMap encM,by simpa [setL] using hblk,by simp only [setL,if_true,List.length_map]; omega,by simpa [setL] using g3,by simp only [setL,if_true,hsz',g4],Rs_mv.2 ⟨rfl,rfl⟩,by rw [List.length_map]; exact htake⟩,by simp [setL]⟩⟩
                  · clear hsd
                    induction ds' with
                    | nil => rfl
                    | cons a r _ => exact (by
                        have : ∀ l : List (Int × Int),trees (l.map mvP) = true := fun l => by
                          induction l with
                          | nil => rfl
                          | cons b l ih => simp [trees,tree,mvP,ih]
                        exact this _)
                  · intro x hx
                    obtain ⟨a,_,rfl⟩ := List.mem_map.1 hx
                    exact ⟨rfl,rfl⟩
                · simp only [List.mem_singleton] at hb'
                  subst hb'
                  exact ⟨ok.nF id _ hs _ hfq,fun id' ob' hne' hs' => ok.dj id id' _ ob' hs hs' (Ne.symm hne') _ hfq⟩
              refine ⟨shape_setS hs,.tuple #[],setL c id (c.L id),setF fp id [(c.L id).blk],[],rfl,⟨rfl,rfl,rfl, ?_,hfz, ?_⟩, ?_, ?_,Free.nil,[],rfl,rfl,rfl⟩
              · simp [sortWorldK,grow,putRowK,putRow,mapBlock,Sort.ahead]
              · simp [sortWorldK,grow,putRowK,putRow,mapBlock,Sort.ahead]
              · rw [gt_setS hid]; exact hst
              · rw [gt_setS hid]; exact ha
          · cases e
        · cases e
      · cases e
    · cases e
  · cases e
end
end Go.Am
end
section
/- The copy of a slice of pairs,as a primitive function: an empty slice may be nil or not. -/
set_option linter.unusedSimpArgs false
set_option linter.unusedVariables false
namespace Go.Am
open Go.Proofs Go.Sort Go.Shelf Go.RowKit
def cloneMv : List PV → Stack → Option (PV × Stack)
  | [.sl false k xs],[] => match unMs xs with
      | some ds => if k = 2 ∧ ds.length ≤ 4294967296 then some (.sl true 2 (ds.map mvP),[]) else none
      | none => none
  | [.nils],[] => some (.sl true 2 [],[])
  | _,_ => none
theorem ret_nils {c : Ctx} {S : Sto} {h : Hp} {v : Value} {f : List Nat} (k : Nat) (r : Ret c S h .nils v f) : Ret c S h (.sl true k []) v f := by
  obtain ⟨hf,A,hv⟩ := r
  exact ⟨rfl,fun x hx => (by cases hx),A,0,hv,.inl ⟨rfl,rfl,hf⟩⟩
theorem cloneMv_good {P : Program} {f : Nat} (h0 : ∀ A cp,Good P f [.sc (.slice A 0 cp)] [] (if A.isNone = true then .nils else .sl true 2 []) [])
    (h1 : ∀ (d : Int × Int) (ds : List (Int × Int)),(d :: ds).length ≤ 4294967296 → Good P f [.sl false 2 ((d :: ds).map mvP)] [] (.sl true 2 ((d :: ds).map mvP)) []) {args : List PV} {o o' : Stack} {r : PV} (e : cloneMv args o = some (r,o')) : Good P f args o r o' := by
  have hz : ∀ x,(∀ c S h v,RVal c S h x v → ∃ A cp,v = .slice A 0 cp) → Good P f [x] [] (.sl true 2 []) [] := fun x hx => by
    refine ⟨(h0 none 0).1,fun c fp w vals ok hr => ?_⟩
    obtain ⟨v,_,rfl,hv,rfl⟩ := hr
    obtain ⟨A,cp,rfl⟩ := hx _ _ _ _ hv
    have hr2 : RVals c (gt []) (hp w) [.sc (.slice A 0 cp)] [.slice A 0 cp] := ⟨_,_,rfl,⟨rfl,rfl,rfl⟩,rfl⟩
    refine ((h0 A cp).2 c fp w _ ok hr2).mono fun e w' hend => ?_
    obtain ⟨hs,v,c',fp',f',a1,a2,a3,a4,a5,a6⟩ := hend
    refine ⟨hs,v,c',fp',f',a1,a2,a3,a4,a5, ?_⟩
    cases A with
    | none => exact ret_nils 2 (by simpa using a6)
    | some a => simpa using a6
  unfold cloneMv at e
  split at e
  · rename_i k xs
    split at e
    · rename_i ds hds
      split at e
      · rename_i hk
        obtain ⟨rfl,hl⟩ := hk
        simp only [Option.some.injEq,Prod.mk.injEq] at e
        obtain ⟨rfl,rfl⟩ := e
        obtain rfl := unMs_eq hds
        cases ds with
        | nil =>
          refine hz _ fun c S h v hv => ?_
          obtain ⟨_,_,_,A,cp,hv,_⟩ := hv
          exact ⟨A,cp,(List.cons.inj hv).1⟩
        | cons d ds => exact h1 d ds hl
      · cases e
    · cases e
  · simp only [Option.some.injEq,Prod.mk.injEq] at e
    obtain ⟨rfl,rfl⟩ := e
    refine hz _ fun c S h v hv => ?_
    obtain ⟨_,A,hv⟩ := hv
    exact ⟨A,0,(List.cons.inj hv).1⟩
  · cases e
end Go.Am
end
section
/- slices.Sort at numbers,by the library's contract. -/
set_option linter.unusedSimpArgs false
set_option linter.unusedVariables false
namespace Go.Am
open Go.RowKit Go.Shelf Go.Lib Go.Sort Go.Proofs
def unN : PV → Option Int
  | .sc (.int .i64 a) => some a
  | _ => none
def unNs : List PV → Option (List Int)
  | [] => some []
  | x :: xs => match unN x,unNs xs with | some a,some r => some (a :: r) | _,_ => none
@[simp] theorem unN_i (a : Int) : unN (.i a) = some a := rfl
@[simp] theorem unNs_map : ∀ ds : List Int,unNs (ds.map PV.i) = some ds
  | [] => rfl
  | a :: ds => by simp [unNs,unNs_map ds]
def sortL (ds : List Int) : List Int := ds.mergeSort fun x y => decide (x ≤ y)
section
variable {P : Program}
end
end Go.Am
end
