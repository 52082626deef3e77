/- An abstract machine; its steps are those of the model. -/
import Derived.Test.YtopipkiebngakaaAnA
import Derived.Laws.CopyRow
import Derived.Laws.BytesString
import Derived.MapKept
import Derived.Laws.StructEq
section
/- Parts of slices; copying into a row. -/
set_option linter.unusedSimpArgs false
set_option linter.unusedVariables false
namespace Go.Am
open Go.RowKit
section
variable {P : Program} {c : Ctx} {S : Sto} {w : World} {fp : Id → List Nat}
def bnds (lo hi : Bool) (us : List Value) : Option Value × Option Value :=
  match lo,hi,us with
  | true,true,[a,b] => (some a,some b)
  | true,false,[a] => (some a,none)
  | false,true,[b] => (none,some b)
  | _,_,_ => (none,none)
theorem bounds_run {q lo hi : Bool} {n cp l h : Nat} {bs : List PV} {us : List Value} (e : sliceOf lo hi n bs = some (l,h)) (r : RVals c S (hp w) bs us) (hn : n ≤ cp ∨ n = 0) :
    (Instr.sliceBounds q n cp (bnds lo hi us).1 (bnds lo hi us).2 none).run P w = .ok (l,h,cp) w ∧ l ≤ h ∧ h ≤ n := by
  unfold sliceOf at e
  split at e
  · split at e
    · rename_i hh
      obtain ⟨rfl,rfl⟩ := hh
      simp only [Option.some.injEq,Prod.mk.injEq] at e
      obtain ⟨rfl,rfl⟩ := e
      simp only [RVals] at r
      subst r
      simp [bnds,Instr.sliceBounds]
    · cases e
  · rename_i a
    obtain ⟨u,us',rfl,h1,r⟩ := (by simpa only [RVals] using r : ∃ v ws,us = v :: ws ∧ RVal c S (hp w) (.sc (.int .i64 a)) v ∧ RVals c S (hp w) [] ws)
    simp only [RVals] at r
    subst r
    have hu := sc_eq h1
    subst hu
    split at e
    · rename_i hh
      obtain ⟨rfl,rfl,h2,h3⟩ := hh
      simp only [Option.some.injEq,Prod.mk.injEq] at e
      obtain ⟨rfl,rfl⟩ := e
      simp [bnds,Instr.sliceBounds,Instr.sliceBound,asIntOf,h2,h3]
    · split at e
      · rename_i hh
        obtain ⟨rfl,rfl,h2,h3⟩ := hh
        simp only [Option.some.injEq,Prod.mk.injEq] at e
        obtain ⟨rfl,rfl⟩ := e
        have h4 : a ≤ cp := by omega
        simp [bnds,Instr.sliceBounds,Instr.sliceBound,asIntOf,h2,h4]
        omega
      · cases e
  · rename_i a b
    obtain ⟨u,us',rfl,h1,r⟩ := (by simpa only [RVals] using r : ∃ v ws,us = v :: ws ∧ RVal c S (hp w) (.sc (.int .i64 a)) v ∧ RVals c S (hp w) [.sc (.int .i64 b)] ws)
    obtain ⟨u2,us2,rfl,h1',r⟩ := (by simpa only [RVals] using r : ∃ v ws,us' = v :: ws ∧ RVal c S (hp w) (.sc (.int .i64 b)) v ∧ RVals c S (hp w) [] ws)
    simp only [RVals] at r
    subst r
    have hu := sc_eq h1
    have hu' := sc_eq h1'
    subst hu hu'
    split at e
    · rename_i hh
      obtain ⟨rfl,rfl,h2,h3,h5⟩ := hh
      simp only [Option.some.injEq,Prod.mk.injEq] at e
      obtain ⟨rfl,rfl⟩ := e
      have h4 : b ≤ cp := by omega
      have h6 : 0 ≤ b := by omega
      have h7 : a ≤ (b.toNat : Int) := by omega
      simp [bnds,Instr.sliceBounds,Instr.sliceBound,asIntOf,h2,h4,h6,h7]
      omega
    · cases e
  · cases e
theorem Rs_mid {k l m : Nat} {xs : List PV} {ws : List Value} {h : Hp} (hk : Ls k xs) (r : Rs c S h xs ws []) (hl : l + m ≤ xs.length) : Rs c S h ((xs.drop l).take m) ((ws.drop (l * k)).take (m * k)) [] := by
  have e1 : xs = xs.take l ++ ((xs.drop l).take m ++ (xs.drop l).drop m) := by rw [List.take_append_drop,List.take_append_drop]
  rw [e1] at r
  obtain ⟨v1,v2,f1,f2,rfl,ef,r1,r2⟩ := Rs_append.1 r
  obtain ⟨v3,v4,f3,f4,rfl,ef2,r3,r4⟩ := Rs_append.1 r2
  have hf1 : f1 = [] := by cases f1 with | nil => rfl | cons _ _ => cases ef
  subst hf1
  have hf2 : f2 = [] := by simpa using ef.symm
  subst hf2
  have hf3 : f3 = [] := by cases f3 with | nil => rfl | cons _ _ => cases ef2
  subst hf3
  have l1 := (Rs_len (fun x hx => hk x (List.mem_of_mem_take hx)) r1).1
  have l3 := (Rs_len (fun x hx => hk x (List.mem_of_mem_drop (List.mem_of_mem_take hx))) r3).1
  rw [List.length_take,Nat.min_eq_left (by omega)] at l1
  rw [List.length_take,List.length_drop,Nat.min_eq_left (by omega)] at l3
  rw [← l1,← l3,List.drop_append_of_le_length (Nat.le_refl _),List.drop_length,List.nil_append,List.take_append_of_le_length (Nat.le_refl _),List.take_length]
  exact r3
theorem elem_of {t e : TypeId} {ti : TypeInfo} (ht : elemOfS P t = some (e,ti)) : P.underlying t = some (.slice e) ∧ P.info? e = some ti := by
  unfold elemOfS at ht
  split at ht
  · rename_i e' hu
    split at ht
    · rename_i i hi
      simp only [Option.some.injEq,Prod.mk.injEq] at ht
      obtain ⟨rfl,rfl⟩ := ht
      exact ⟨hu,hi⟩
    · cases ht
  · cases ht
theorem sliceAt_run {t e : TypeId} {ti : TypeInfo} {A : Option Addr} {n cp l h : Nat} {lo hi : Option Value} (ht : elemOfS P t = some (e,ti)) (hb : (Instr.sliceBounds true n cp lo hi none).run P w = .ok (l,h,cp) w) :
    (Instr.sliceAt t (.slice A n cp) lo hi none).run P w = .ok (.slice (if cp = l then A else A.map (·.add (l * ti.size))) (h - l) (cp - l)) w := by
  obtain ⟨hu,hi'⟩ := elem_of ht
  simp [Instr.sliceAt,Instr.slice,run_underlying hu,hb,sizeOf,typeInfo,hi']
theorem slice_yield (ok : StOK c S (hp w) fp) {t e : TypeId} {ti : TypeInfo} {k l h : Nat} {lo hi : Bool} {xs bs : List PV} {v : Value} {us : List Value} (ht : elemOfS P t = some (e,ti)) (hes : ti.size = k)
    (hb : sliceOf lo hi xs.length bs = some (l,h)) (hx : RVal c S (hp w) (.sl false k xs) v) (hr : RVals c S (hp w) bs us) :
    Yield P c S w (do pure (.value (← Instr.sliceAt t v (bnds lo hi us).1 (bnds lo hi us).2 none))) S (.sl false k ((xs.drop l).take (h - l))) := by
  obtain ⟨t1,hk,_,A,cp,hv,r⟩ := hx
  have hv : v = .slice A xs.length cp := by simpa using hv
  subst hv
  have hn : xs.length ≤ cp ∨ xs.length = 0 := by
    rcases r with r | ⟨g,off,cur,et,fr,ws,h1,hcp,_⟩
    · right; rw [r]; rfl
    · exact .inl hcp
  obtain ⟨hrun,h1,h2⟩ := bounds_run hb hr hn
  refine yield_pure ok (sliceAt_run ht hrun) ?_
  have hlen : ((xs.drop l).take (h - l)).length = h - l := by rw [List.length_take,List.length_drop]; omega
  refine ⟨trees_take _ (trees_drop _ t1),fun x hx => hk x (List.mem_of_mem_drop (List.mem_of_mem_take hx)),rfl,_,cp - l,by rw [hlen], ?_⟩
  rcases r with r | ⟨g,off,cur,et,fr,ws,e1,hcp,hF,hr2,htk⟩
  · left; rw [r]; simp
  · by_cases hz : h = l
    · left; rw [hz,Nat.sub_self]; simp
    · right
      have hne : ¬ cp = l := by omega
      refine ⟨g,off + l * k,cur,et,fr,(ws.drop (l * k)).take ((h - l) * k), ?_,by rw [hlen]; omega,hF,Rs_mid hk hr2 (by omega), ?_⟩
      · rw [if_neg hne,e1]
        simp [add_off,hes]
      · rw [hlen,← htk]
        apply List.ext_getElem?
        intro j
        simp only [List.getElem?_take,List.getElem?_drop]
        by_cases hj : j < (h - l) * k
        · have : l * k + j < xs.length * k := by
            have : (l + (h - l)) * k ≤ xs.length * k := Nat.mul_le_mul_right _ (by omega)
            rw [Nat.add_mul] at this
            omega
          simp [hj,this,Nat.add_assoc]
        · simp [hj]
theorem sliceOf_hi {lo : Bool} {n l h : Nat} {bs : List PV} (e : sliceOf lo false n bs = some (l,h)) : h = n := by
  unfold sliceOf at e
  split at e <;> (repeat' split at e) <;> simp_all
theorem sub_yield (ok : StOK c S (hp w) fp) {t e : TypeId} {ti : TypeInfo} {k l h : Nat} {lo : Bool} {id : Id} {xs bs : List PV} {v : Value} {us : List Value} (ht : elemOfS P t = some (e,ti)) (hes : ti.size = k) (hs : S id = some (.row k xs))
    (hb : sliceOf lo false xs.length bs = some (l,h)) (hx : RVal c S (hp w) (.own id xs.length) v) (hr : RVals c S (hp w) bs us) :
    Yield P c S w (do pure (.value (← Instr.sliceAt t v (bnds lo false us).1 (bnds lo false us).2 none))) S (.sub id xs.length l) := by
  obtain ⟨_,v',e1,h1,h2⟩ := hx
  have : v = v' := by simpa using e1
  subst this
  simp only [OwnOK,hs] at h2
  have h3 := h2.2 trivial
  subst h3
  obtain ⟨t1,hk,ro⟩ := ok.ob id _ hs
  have hn : xs.length ≤ (c.L id).cap ∨ xs.length = 0 := by
    rcases ro with r | ⟨fq,hb,⟨cur,et,ws,_,hcp,_⟩,_⟩
    · right; rw [r.1]; rfl
    · exact .inl hcp
  obtain ⟨hrun,h4,h5⟩ := bounds_run hb hr hn
  have hh : h = xs.length := sliceOf_hi hb
  subst hh
  refine yield_pure ok (sliceAt_run ht hrun) ?_
  refine ⟨rfl,_,rfl,rfl, ?_⟩
  simp only [SubOK,hs]
  exact ⟨Nat.le_refl _,fun _ => ⟨h4,by rw [hes]⟩⟩
theorem fsl_yield (ok : StOK c S (hp w) fp) {t e : TypeId} {ti : TypeInfo} {k l h : Nat} {id : Id} {xs bs : List PV} {v : Value} {us : List Value} (ht : elemOfS P t = some (e,ti)) (hes : ti.size = k) (hs : S id = some (.row k xs))
    (hb : sliceOf true false xs.length bs = some (l,h)) (hx : RVal c S (hp w) (.own id xs.length) v) (hr : RVals c S (hp w) bs us) :
    Yield P c S w (do pure (.value (← Instr.sliceAt t v (bnds true false us).1 (bnds true false us).2 none))) (upds S [(id,.frz k (fals xs))]) (.sl false k (((fals xs).drop l).take (h - l))) := by
  obtain ⟨ok1,ha⟩ := ok.freeze hs
  have hv : OwnOK c S id xs.length v := own_of (w := w) hx
  have hv1 := hv.adv ha
  rw [← fals_length xs] at hv1 hb
  have hsl := row_shr (id := id) (k := k) (xs := fals xs) ok1 (by simp [upd]) hv1
  obtain ⟨nx,v',w',c',fp',g1,g2,g3,g4,g5,g6⟩ := slice_yield ok1 ht hes hb hsl (hr.adv ha)
  exact ⟨nx,v',w',c',fp',g1,g2,g3,ha.trans g4,g5,g6⟩
theorem scs_plains : ∀ {xs : List PV},scs xs = true → plains xs = true
  | [],_ => rfl
  | x :: xs,h => by
    cases x <;> simp [scs] at h
    simp [plains,plain,scs_plains h]
theorem scs_app : ∀ {xs ys : List PV},scs xs = true → scs ys = true → scs (xs ++ ys) = true
  | [],_,_,h => h
  | x :: xs,ys,h,h' => by
    cases x <;> simp [scs] at h
    simpa [scs] using scs_app h h'
theorem scs_sub : ∀ {xs : List PV},scs xs = true ↔ ∀ x ∈ xs,∃ v,x = .sc v
  | [] => by simp [scs]
  | x :: xs => by
    cases x <;> simp [scs,scs_sub (xs := xs)]
theorem scs_Ls {xs : List PV} (h : scs xs = true) : Ls 1 xs := fun x hx => by
  obtain ⟨v,rfl⟩ := scs_sub.1 h x hx
  exact ⟨rfl,rfl⟩
theorem scs_trees : ∀ {xs : List PV},scs xs = true → trees xs = true
  | [],_ => rfl
  | x :: xs,h => by
    cases x <;> simp [scs] at h
    simp [trees,tree,scs_trees h]
theorem srcOf_false {g : Id → Option OB} {k : Nat} {x : PV} {ys : List PV} {ws} (e : srcOf g k false x = some (ys,ws)) : ws = [] := by
  unfold srcOf at e
  split at e <;> (repeat' split at e) <;> simp_all
theorem u8s_vs : ∀ {ys : List PV} {ns : List Int} {vs : List Value} {f : List Nat},u8s ys = some ns → Rs c S (hp w) ys vs f → vs = ns.map (Value.int .u8)
  | [],ns,vs,f,e,r => by
    simp only [u8s,Option.some.injEq] at e
    subst e
    exact r.1
  | y :: ys,ns,vs,f,e,r => by
    unfold u8s at e
    split at e
    · rename_i h; cases h
    · rename_i n l hy
      injection hy with h1 h2
      subst h1 h2
      obtain ⟨v1,v2,f1,f2,rfl,rfl,r1,r2⟩ := r
      split at e
      · rename_i ms hm
        simp only [Option.some.injEq] at e
        subst e
        rw [u8s_vs hm r2,r1.2.1]
        rfl
      · cases e
    · cases e
theorem bstr_yield (ok : StOK c S (hp w) fp) {s t e : TypeId} {x : PV} {ys : List PV} {ws} {ns : List Int} {v : Value} (hs : P.underlying s = some (.slice e)) (he : P.underlying e = some (.int .u8)) (ht : P.underlying t = some .string)
    (hsrc : srcOf S 1 false x = some (ys,ws)) (hu : u8s ys = some ns) (hx : RVal c S (hp w) x v) :
    Yield P c S w (do pure (.value (← convert s t v))) S (.s (strU ns)) := by
  obtain ⟨c1,fp1,vs,f,ok1,ha1,_,hk1,r1,fr1,A,cp,hv1,hat⟩ := src_ok ok hsrc hx
  have hw0 := srcOf_false hsrc
  subst hw0
  have hvs := u8s_vs hu r1
  have hvl : vs.length = ys.length := by simpa using (Rs_len hk1 r1).1
  refine yield_pure ok (v := .string (strU ns)) ?_ (sc_of rfl)
  rw [hv1,run_convert_bytes_string w s t e A ys.length cp hs he ht]
  cases A with
  | none =>
    have h0 : ys.length = 0 := by
      rcases hat with h | ⟨a,h,_⟩
      · exact h
      · cases h
    have : ns = [] := by
      rw [hvs,List.length_map] at hvl
      exact List.length_eq_zero_iff.1 (by omega)
    subst this
    simp [Conv.bytesToString,strU]
  | some a =>
    have hc : ∀ j u,vs[j]? = some u → w.cell? (a.add j) = some u := by
      intro j u hj
      rcases hat with h | ⟨a',h,h2⟩
      · have : vs = [] := List.length_eq_zero_iff.1 (by omega)
        rw [this] at hj; simp at hj
      · injection h with h
        subst h
        exact h2 j u hj
    have hl := run_loadCells_list (P := P) (w := w) a vs hc
    rw [hvl,hvs] at hl
    exact run_bytesToString w a ys.length cp ns hl
theorem sstr_yield (ok : StOK c S (hp w) fp) {t : TypeId} {lo hi : Bool} {l h : Nat} {b : ByteArray} {bs : List PV} {v : Value} {us : List Value} (ht : P.underlying t = some .string)
    (hb : sliceOf lo hi b.size bs = some (l,h)) (hx : RVal c S (hp w) (.s b) v) (hr : RVals c S (hp w) bs us) :
    Yield P c S w (do pure (.value (← Instr.sliceAt t v (bnds lo hi us).1 (bnds lo hi us).2 none))) S (.s (b.extract l h)) := by
  rw [sc_eq hx]
  obtain ⟨hrun,_,_⟩ := bounds_run (P := P) (q := false) (cp := b.size) hb hr (.inl (Nat.le_refl _))
  refine yield_pure ok (v := .string (b.extract l h)) ?_ (sc_of rfl)
  simp [Instr.sliceAt,Instr.slice,run_underlying ht,hrun]
theorem run_copy_none {dT sT ty elem : TypeId} {A B : Option Addr} {n m p q : Nat} (hu : P.underlying dT = some (.slice elem)) (hs : ((P.info? elem).map (·.size)).isSome = true) (h : Nat.min m n = 0) :
    (Builtin.copy_ #[dT,sT] ty #[.slice A n p,.slice B m q]).run P w = .ok (goInt 0) w := by
  cases hq : P.info? elem with
  | none => simp [hq] at hs
  | some i => cases A <;> cases B <;> simp [Builtin.copy_,run_underlying hu,Builtin.lenOf,Builtin.firstCells,sizeOf,typeInfo,hq,storeCells,h,loadCells,loadCellsFrom]
theorem copy_yield (ok : StOK c S (hp w) fp) {t t' ty e : TypeId} {ti : TypeInfo} {id : Id} {i : Nat} {x : PV} {xs ys : List PV} {ws} {v u : Value} (ht : elemOfS P t = some (e,ti)) (hes : ti.size = 1) (hs : S id = some (.row 1 xs)) (h1 : scs xs = true) (h2 : scs ys = true)
    (hi : i ≤ xs.length) (hsrc : srcOf S 1 false x = some (ys,ws)) (hx : RVal c S (hp w) (.sub id xs.length i) v) (hy : RVal c S (hp w) x u) :
    Yield P c S w (do pure (.value (← Builtin.copy_ #[t,t'] ty #[v,u]))) (upds S [(id,.row 1 (xs.take i ++ ys.take (min (xs.length - i) ys.length) ++ xs.drop (i + min (xs.length - i) ys.length)))]) (.i (min (xs.length - i) ys.length : Nat)) := by
  obtain ⟨hu,hinf⟩ := elem_of ht
  have hsz : (P.info? e).map (·.size) = some 1 := by rw [hinf]; simp [hes]
  obtain ⟨c1,fp1,vs,f,ok1,ha1,_,hk1,r1,fr1,A,cp,hv1,hat⟩ := src_ok ok hsrc hy
  have hw0 := srcOf_false hsrc
  subst hw0
  simp only [upds] at ok1 ha1 r1 fr1
  have hf : f = [] := plains_fp (scs_plains h2) r1
  subst hf
  have hvl : vs.length = ys.length := by simpa using (Rs_len (scs_Ls h2) r1).1
  obtain ⟨_,v',e1,_,hsub⟩ := (show R c S (hp w) (.sub id xs.length i) [v] [] from hx)
  have : v = v' := by simpa using e1
  subst this
  have hsub := hsub.adv ha1
  simp only [SubOK,hs] at hsub
  obtain ⟨_,hsub⟩ := hsub
  obtain ⟨_,hsub⟩ := hsub trivial
  generalize hq : min (xs.length - i) ys.length = q at *
  by_cases h0 : q = 0
  · subst h0
    have hrow : xs.take i ++ ys.take 0 ++ xs.drop (i + 0) = xs := by simp
    rw [hrow]
    have hS : upds S [(id,.row 1 xs)] = S := by
      funext y
      by_cases hy : y = id
      · simp [upds,upd,hy,hs]
      · simp [upds,upd,hy]
    rw [hS]
    refine yield_pure ok (v := goInt 0) ?_ (sc_of rfl)
    rw [hsub,hv1]
    exact run_copy_none hu (by rw [hsz]; rfl) (by rw [show Nat.min ys.length (xs.length - i) = min ys.length (xs.length - i) from rfl,Nat.min_comm]; exact hq)
  · obtain ⟨htr,hkr,ro⟩ := ok1.ob id _ hs
    rcases ro with ro | ⟨fq,hb,⟨cur,et,wsr,g1,g2,g3,g4,g5,g6⟩,hfp⟩
    · rw [ro.1] at hq; simp at hq; omega
    have hfq : fq = [] := plains_fp (scs_plains h1) g5
    subst hfq
    have hne : ¬ (c1.L id).cap = i := by omega
    rw [if_neg hne,hb] at hsub
    rcases hat with hat | ⟨a,rfl,hcell⟩
    · omega
    have hwl : wsr.length = xs.length := by simpa using (Rs_len hkr g5).1
    have hql : (vs.take q).length = q := by rw [List.length_take]; omega
    have hc1 : ∀ j y,(vs.take q)[j]? = some y → w.cell? (a.add j) = some y := fun j y hj => by
      rw [List.getElem?_take] at hj
      split at hj
      · exact hcell j y hj
      · cases hj
    have hone := (Rs_len (scs_Ls h2) r1).2
    have hrun := run_copy_row P w t t' ty e (c1.L id).blk i (xs.length - i) ((c1.L id).cap - i) a ys.length cp cur et (vs.take q) hu hsz g1 (by rw [hql,← hq,show Nat.min ys.length (xs.length - i) = min ys.length (xs.length - i) from rfl,Nat.min_comm]) hc1 (by rw [hql,g4]; omega) (fun y hy => hone y (List.mem_of_mem_take hy))
    rw [hql] at hrun
    have hadd : (⟨(c1.L id).blk,0,none⟩ : Addr).add (i * 1) = ⟨(c1.L id).blk,i,none⟩ := by rw [add_off]; simp
    have hlen : (xs.take i ++ ys.take q ++ xs.drop (i + q)).length = xs.length := by simp; omega
    have hsc : scs (xs.take i ++ ys.take q ++ xs.drop (i + q)) = true := scs_app (scs_app (scs_sub.2 fun z hz => scs_sub.1 h1 z (List.mem_of_mem_take hz)) (scs_sub.2 fun z hz => scs_sub.1 h2 z (List.mem_of_mem_take hz))) (scs_sub.2 fun z hz => scs_sub.1 h1 z (List.mem_of_mem_drop hz))
    have ha : Adv c1 (setL c1 id (c1.L id)) S (upd S id (.row 1 (xs.take i ++ ys.take q ++ xs.drop (i + q)))) := Adv.row hs (by omega) (fun _ => rfl)
    have hblk : (c1.L id).blk ∈ fp1 id := by rw [hfp]; exact List.mem_cons_self
    have e1 : cur.toList.take i ++ vs.take q ++ cur.toList.drop (i + q) = (wsr.take i ++ vs.take q ++ wsr.drop (i + q)) ++ cur.toList.drop xs.length := by
      have hcur : cur.toList = wsr ++ cur.toList.drop xs.length := by
        have g6' : cur.toList.take xs.length = wsr := by simpa using g6
        rw [← g6',List.take_append_drop]
      conv => lhs; rw [hcur]
      rw [List.take_append_of_le_length (by omega),List.drop_append_of_le_length (by omega)]
      simp only [List.append_assoc]
    refine ⟨_,goInt q,_,setL c1 id (c1.L id),setF fp1 id [(c1.L id).blk], ?_,.inl rfl, ?_,ha1.trans ha,sc_of rfl,Grew.setRow w (c1.L id).blk (cur.toList.take i ++ vs.take q ++ cur.toList.drop (i + q)).toArray⟩
    · rw [hsub,hv1]
      simp only [Option.map_some,hadd]
      simp [hrun]
    · refine ok1.reset hs ha ?_ (by simp) (fun b hb => ?_) (fun b _ hb => hp_setRow (fun e => hb (by rw [e]; exact hblk)))
      · refine ⟨scs_trees hsc,scs_Ls hsc,.inr ⟨[],by simpa [setL] using hb,⟨_,et,wsr.take i ++ vs.take q ++ wsr.drop (i + q),by simp only [setL,if_true]; exact setRow_heap w _ cur _ et (0,0) g1,by simp only [setL,if_true]; omega,by simpa [setL] using g3, ?_, ?_, ?_⟩,by simp [setL]⟩⟩
        · simp only [setL,if_true,List.size_toArray,List.length_append,List.length_take,List.length_drop,Array.length_toList,Nat.mul_one] at g4 ⊢
          omega
        · refine Rs.adv (h := hp w) ha _ _ [] (fun b hb => by cases hb) ?_
          have p1 := Rs_mid (l := 0) (m := i) hkr g5 (by omega)
          have p2 := Rs_mid (l := 0) (m := q) (scs_Ls h2) r1 (by omega)
          have p3 := Rs_mid (l := i + q) (m := xs.length - (i + q)) hkr g5 (by omega)
          simp only [Nat.mul_one,Nat.zero_mul,List.drop_zero] at p1 p2 p3
          rw [List.take_of_length_le (by simp),List.take_of_length_le (by simp; omega)] at p3
          exact Rs_append.2 ⟨_,_,[],[],rfl,rfl,Rs_append.2 ⟨_,_,[],[],rfl,rfl,Rs.data (fun _ _ h => h) _ _ [] (scs_trees (scs_sub.2 fun z hz => scs_sub.1 h1 z (List.mem_of_mem_take hz))) (fun b hb => by cases hb) p1,p2⟩,p3⟩
        · rw [hlen,Nat.mul_one,e1,List.take_append_of_le_length (by simp; omega),List.take_of_length_le (by simp; omega)]
      · simp only [List.mem_singleton] at hb
        subst hb
        exact ⟨ok1.nF id _ hs _ hblk,fun id' ob' hne' hs' => ok1.dj id id' _ ob' hs hs' (Ne.symm hne') _ hblk⟩
end
end Go.Am
end
section
/- Maps: made,looked into,set. -/
set_option linter.unusedSimpArgs false
set_option linter.unusedVariables false
namespace Go.Am
open Go.RowKit
def mapOf (P : Program) (t : TypeId) : Option (Bool × TypeId) :=
  match P.underlying t with
  | some (.map k e) => match P.underlying k with
    | some (.int .i64) => some (false,e)
    | some .string => some (true,e)
    | _ => none
  | _ => none
def zeroE (P : Program) (e : TypeId) (z : PV) : Bool :=
  match P.info? e with
  | some i => match i.zero with
    | some zv => litE z zv && (match z with | .tup _ => false | _ => true)
    | none => false
  | none => false
theorem keyOf_val {v : Value} {k : Key} (h : keyOf v = some k) : v = k.val := by
  unfold keyOf at h
  split at h <;> simp only [Option.some.injEq,reduceCtorEq] at h <;> (try subst h) <;> rfl
section
variable {P : Program} {c : Ctx} {S : Sto} {w : World} {fp : Id → List Nat}
theorem lkp_none {k : Key} : ∀ {es : List (Key × PV)},k ∉ es.map (·.1) → lkp k es = none
  | [],_ => rfl
  | (k',x) :: r,h => by
    simp only [List.map_cons,List.mem_cons,not_or] at h
    simp only [lkp]
    rw [if_neg (fun e => h.1 e.symm),lkp_none h.2]
theorem lkp_mem {k : Key} {x : PV} : ∀ {es : List (Key × PV)},(es.map (·.1)).Nodup → (k,x) ∈ es → lkp k es = some x
  | [],_,h => by cases h
  | (k',y) :: r,hn,h => by
    simp only [List.map_cons,List.nodup_cons] at hn
    simp only [lkp]
    rcases List.mem_cons.1 h with h | h
    · simp only [Prod.mk.injEq] at h
      obtain ⟨rfl,rfl⟩ := h
      simp
    · rw [if_neg (fun e => hn.1 (by rw [e]; exact List.mem_map.2 ⟨_,h,rfl⟩)),lkp_mem hn.2 h]
theorem lkp_perm {k : Key} {es es' : List (Key × PV)} (hp : es.Perm es') (hn : (es.map (·.1)).Nodup) : lkp k es' = lkp k es := by
  have hn' : (es'.map (·.1)).Nodup := (hp.map _).nodup hn
  by_cases h : k ∈ es.map (·.1)
  · obtain ⟨⟨k',x⟩,h1,rfl⟩ := List.mem_map.1 h
    rw [lkp_mem hn h1,lkp_mem hn' (hp.mem_iff.1 h1)]
  · rw [lkp_none h,lkp_none (fun h' => h ((hp.map _).mem_iff.2 h'))]
theorem ins_none {k : Key} {x : PV} : ∀ {es : List (Key × PV)},k ∉ es.map (·.1) → ins k x es = es ++ [(k,x)]
  | [],_ => rfl
  | (k',y) :: r,h => by
    simp only [List.map_cons,List.mem_cons,not_or] at h
    simp only [ins]
    rw [if_neg (fun e => h.1 e.symm),ins_none h.2]; rfl
theorem ins_keys {k : Key} {x : PV} : ∀ {es : List (Key × PV)},k ∈ es.map (·.1) → (ins k x es).map (·.1) = es.map (·.1)
  | [],h => by cases h
  | (k',y) :: r,h => by
    simp only [ins]
    by_cases e : k' = k
    · simp [e]
    · rw [if_neg e]
      simp only [List.map_cons,List.mem_cons] at h
      simp only [List.map_cons]
      rw [ins_keys (h.resolve_left (fun e' => e e'.symm))]
theorem ins_eq {k : Key} {x : PV} : ∀ {es : List (Key × PV)},(es.map (·.1)).Nodup → k ∈ es.map (·.1) → ins k x es = es.map (fun e => if e.1 = k then (k,x) else e)
  | [],_,h => by cases h
  | (k',y) :: r,hn,h => by
    simp only [List.map_cons,List.nodup_cons] at hn
    simp only [ins,List.map_cons]
    by_cases e : k' = k
    · subst e
      simp only [if_true]
      congr 1
      symm
      refine (List.map_congr_left fun z hz => ?_).trans (List.map_id _)
      rw [if_neg]
      · rfl
      · intro e; exact hn.1 (by rw [← e]; exact List.mem_map.2 ⟨z,hz,rfl⟩)
    · simp only [List.map_cons,List.mem_cons] at h
      rw [if_neg e,if_neg e,ins_eq hn.2 (h.resolve_left (fun e' => e e'.symm))]
theorem ins_perm {k : Key} {x : PV} {es es' : List (Key × PV)} (hp : es.Perm es') (hn : (es.map (·.1)).Nodup) : (ins k x es).Perm (ins k x es') := by
  have hn' : (es'.map (·.1)).Nodup := (hp.map _).nodup hn
  by_cases h : k ∈ es.map (·.1)
  · rw [ins_eq hn h,ins_eq hn' ((hp.map _).mem_iff.1 h)]
    exact hp.map _
  · rw [ins_none h,ins_none (fun h' => h ((hp.map _).mem_iff.2 h'))]
    exact hp.append_right _
theorem ins_nodup {k : Key} {x : PV} {es : List (Key × PV)} (hn : (es.map (·.1)).Nodup) : ((ins k x es).map (·.1)).Nodup := by
  by_cases h : k ∈ es.map (·.1)
  · rw [ins_keys h]; exact hn
  · rw [ins_none h,List.map_append,List.nodup_append]
    refine ⟨hn,by simp,fun a ha b hb e => ?_⟩
    simp only [List.map_cons,List.map_nil,List.mem_singleton] at hb
    subst hb; subst e
    exact h ha
theorem ins_str {k : Key} {x : PV} {s : Bool} {es : List (Key × PV)} (hk : k.str = s) (h : ∀ k ∈ es.map (·.1),k.str = s) : ∀ k' ∈ (ins k x es).map (·.1),k'.str = s := by
  by_cases hm : k ∈ es.map (·.1)
  · rw [ins_keys hm]; exact h
  · rw [ins_none hm,List.map_append]
    intro k' hk'
    rcases List.mem_append.1 hk' with h1 | h1
    · exact h k' h1
    · simp only [List.map_cons,List.map_nil,List.mem_singleton] at h1
      subst h1; exact hk
theorem ba_beq (x y : ByteArray) : (x == y) = decide (x = y) := by
  by_cases h : x = y
  · subst h
    rw [decide_eq_true rfl]
    show (x.data == x.data) = true
    simp
  · rw [decide_eq_false h]
    show (x.data == y.data) = false
    rw [beq_eq_false_iff_ne]
    intro e
    exact h (by cases x; cases y; simp only at e; rw [e])
def kindK (s : Bool) (t : TypeDesc) : Prop := t = if s then .string else .int .i64
theorem sameNow_key {s : Bool} {td : TypeDesc} {a b : Key} (ht : kindK s td) (ha : a.str = s) (hb : b.str = s) : Instr.sameNow td a.val b.val = some (decide (a = b)) := by
  unfold kindK at ht
  subst ht
  cases a <;> cases b <;> simp only [Key.str] at ha hb <;> subst ha <;> simp only [reduceCtorEq] at hb <;> simp [Instr.sameNow,Key.val]
  · rename_i x y
    by_cases h : x = y <;> simp [h]
  · rename_i x y
    rw [ba_beq]
theorem Ents.len {h : Hp} : ∀ {es : List (Key × PV)} {ms : List MapEntry},Ents c S h es ms → ms.length = es.length
  | [],_,r => by simp only [Ents] at r; rw [r]; rfl
  | (_,_) :: _,_,⟨e,q,h1,h2,h3,h4⟩ => by rw [h1]; simp [Ents.len h4]
theorem find_none {h : Hp} {s : Bool} {td : TypeDesc} {k : Key} (ht : kindK s td) (hk : k.str = s) : ∀ {es : List (Key × PV)} {ms : List MapEntry} {i : Nat},Ents c S h es ms → (∀ k ∈ es.map (·.1),k.str = s) → k ∉ es.map (·.1) → Instr.findNow td k.val ms i = some none
  | [],_,i,r,_,_ => by simp only [Ents] at r; rw [r]; rfl
  | (k',x) :: es,_,i,⟨e,q,h1,h2,h3,h4⟩,hs,hm => by
    subst h1
    simp only [List.map_cons,List.mem_cons,not_or] at hm
    simp only [Instr.findNow,h2,sameNow_key ht hk (hs k' (by simp))]
    rw [decide_eq_false hm.1]
    exact find_none ht hk h4 (fun k hk => hs k (by simp only [List.map_cons,List.mem_cons]; exact .inr hk)) hm.2
theorem find_some {h : Hp} {s : Bool} {td : TypeDesc} {k : Key} (ht : kindK s td) (hk : k.str = s) : ∀ {es : List (Key × PV)} {ms : List MapEntry} {i : Nat},Ents c S h es ms → (∀ k ∈ es.map (·.1),k.str = s) → (es.map (·.1)).Nodup → k ∈ es.map (·.1) →
    ∃ j e x,Instr.findNow td k.val ms i = some (some (i + j,e.val)) ∧ ms[j]? = some e ∧ e.key = k.val ∧ lkp k es = some x ∧ MV c S h x e.val ∧
      ∀ (y : PV) (v : Value),MV c S h y v → Ents c S h (ins k y es) (ms.modify j fun e => { e with key := k.val,val := v })
  | [],_,i,_,_,_,hm => by cases hm
  | (k',x) :: es,_,i,⟨e,q,h1,h2,h3,h4⟩,hs,hn,hm => by
    subst h1
    by_cases hkk : k = k'
    · subst hkk
      refine ⟨0,e,x, ?_,rfl,h2,by simp [lkp],h3,fun y v hv => ?_⟩
      · simp [Instr.findNow,h2,sameNow_key ht hk hk]
      · simp only [ins,if_true]
        exact ⟨{ e with key := k.val,val := v },q,by simp [List.modify],rfl,hv,h4⟩
    · simp only [List.map_cons,List.mem_cons] at hm
      simp only [List.map_cons,List.nodup_cons] at hn
      obtain ⟨j,e',x',g1,g2,g3,g4,g5,g6⟩ := find_some (i := i + 1) ht hk h4 (fun k hk => hs k (by simp only [List.map_cons,List.mem_cons]; exact .inr hk)) hn.2 (hm.resolve_left hkk)
      refine ⟨j + 1,e',x', ?_,by simpa using g2,g3,by simp only [lkp]; rw [if_neg (fun h => hkk h.symm)]; exact g4,g5,fun y v hv => ?_⟩
      · simp only [Instr.findNow,h2,sameNow_key ht hk (hs k' (by simp))]
        rw [decide_eq_false hkk]
        rw [show i + (j + 1) = i + 1 + j by omega]
        exact g1
      · simp only [ins]
        rw [if_neg (fun h => hkk h.symm)]
        exact ⟨e,_,by simp [List.modify],h2,h3,g6 y v hv⟩
theorem Ents.app {h : Hp} {k : Key} {y : PV} {e : MapEntry} (hk : e.key = k.val) (hv : MV c S h y e.val) : ∀ {es : List (Key × PV)} {ms : List MapEntry},Ents c S h es ms → Ents c S h (es ++ [(k,y)]) (ms ++ [e])
  | [],_,r => by simp only [Ents] at r; rw [r]; exact ⟨e,[],rfl,hk,hv,rfl⟩
  | (_,_) :: _,_,⟨e',q,h1,h2,h3,h4⟩ => ⟨e',q ++ [e],by rw [h1]; rfl,h2,h3,Ents.app hk hv h4⟩
theorem mapOf_spec {t e : TypeId} {s : Bool} (h : mapOf P t = some (s,e)) : ∃ k td,P.underlying t = some (.map k e) ∧ P.underlying k = some td ∧ kindK s td := by
  unfold mapOf at h
  split at h
  · rename_i k e' hu
    split at h
    · rename_i hk
      simp only [Option.some.injEq,Prod.mk.injEq] at h
      obtain ⟨rfl,rfl⟩ := h
      exact ⟨k,_,hu,hk,rfl⟩
    · rename_i hk
      simp only [Option.some.injEq,Prod.mk.injEq] at h
      obtain ⟨rfl,rfl⟩ := h
      exact ⟨k,_,hu,hk,rfl⟩
    · cases h
  · cases h
theorem check_key {kt : TypeId} {td : TypeDesc} {s : Bool} {b : Bool} {v : Value} (hk : P.underlying kt = some td) (ht : kindK s td) : (Instr.checkKey b 10000 kt v).run P w = .ok () w := by
  unfold kindK at ht
  subst ht
  rw [show (10000 : Nat) = 9999 + 1 from rfl]
  unfold Instr.checkKey
  cases s <;> simp [run_underlying hk]
theorem findKey_run {kt : TypeId} {td : TypeDesc} {kv : Value} {ms : List MapEntry} {r : Option (Nat × Value)} (hk : P.underlying kt = some td) (h : Instr.findNow td kv ms 0 = some r) : (Instr.findKey kt kv ms).run P w = .ok r w := by
  simp [Instr.findKey,run_underlying hk,h]
theorem zero_run {e : TypeId} {z : PV} (h : zeroE P e z = true) : ∃ zv,(zeroValue e).run P w = .ok zv w ∧ RVal c S (hp w) z zv ∧ ∀ qs,z ≠ .tup qs := by
  unfold zeroE at h
  split at h
  · rename_i i hi
    split at h
    · rename_i zv hz
      simp only [Bool.and_eq_true] at h
      refine ⟨zv,by simp [zeroValue,typeInfo,hi,hz],litE_RVal h.1,fun qs e => ?_⟩
      subst e
      simp at h
    · cases h
  · cases h
theorem RV1_of_RVal {x : PV} {v : Value} (hn : ∀ qs,x ≠ .tup qs) (r : RVal c S (hp w) x v) : RV1 c S (hp w) x v := by
  cases x <;> first | exact r | exact absurd rfl (hn _)
theorem RVal_lkR {ok : Bool} {z : PV} {r : Option PV} {v : Value} (h1 : ∀ qs,z ≠ .tup qs) (h2 : ∀ x,r = some x → plain x = true) (h : RV1 c S (hp w) (r.getD z) v) :
    RVal c S (hp w) (lkR ok z r) (if ok then .tuple #[v,.bool r.isSome] else v) := by
  unfold lkR
  cases ok with
  | true => exact ⟨[v,.bool r.isSome],rfl,v,_,rfl,h,.bool r.isSome,[],rfl,⟨rfl,rfl,rfl⟩,rfl⟩
  | false =>
    simp only [Bool.false_eq_true,if_false]
    refine RV1_RVal h (fun ps e => ?_)
    cases r with
    | none => exact h1 ps e
    | some x =>
      simp only [Option.getD_some] at e
      subst e
      have := h2 _ rfl
      simp [plain] at this
theorem lookup_yield (ok : StOK c S (hp w) fp) {t e : TypeId} {s cm : Bool} {z : PV} {id : Id} {es : List (Key × PV)} {k : Key} {v u : Value} (ht : mapOf P t = some (s,e)) (hz : zeroE P e z = true) (hs : S id = some (.map s es)) (hk : k.str = s)
    (hx : RVal c S (hp w) (.mp id) v) (hu : u = k.val) : Yield P c S w (do pure (.value (← Instr.lookup t v u cm))) S (lkR cm z (lkp k es)) := by
  obtain ⟨kt,td,h1,h2,h3⟩ := mapOf_spec ht
  obtain ⟨_,v',e1,_,hm⟩ := (show R c S (hp w) (.mp id) [v] [] from hx)
  have : v = v' := by simpa using e1
  subst this
  simp only [MapOK,hs] at hm
  subst hm hu
  obtain ⟨⟨ms,clock,es',g1,g2,g3,g4,g5,g6⟩,_⟩ := ok.ob id _ hs
  obtain ⟨zv,z1,z2,z3⟩ := zero_run (c := c) (S := S) (w := w) hz
  have g4' : (es'.map (·.1)).Nodup := (g2.map _).nodup g4
  have g5' : ∀ k ∈ es'.map (·.1),k.str = s := fun k hk => g5 k ((g2.map _).mem_iff.2 hk)
  have hget : (getObj (c.L id).blk).run P w = .ok (.map ms clock) w := MapKept.run_getObj_map g1
  by_cases hm : k ∈ es'.map (·.1)
  · obtain ⟨j,en,x,f1,f2,f3,f4,f5,_⟩ := find_some (i := 0) h3 hk g3 g5' g4' hm
    rw [lkp_perm g2 g4] at f4
    refine yield_pure ok (v := if cm then .tuple #[en.val,.bool true] else en.val) ?_ ?_
    · have := findKey_run (P := P) (w := w) h2 f1
      simp [Instr.lookup,run_underlying h1,hget,check_key h2 h3,this]
    · rw [f4]
      exact RVal_lkR (ok := cm) (z := z) (r := some x) z3 (fun y hy => by cases hy; exact f5.1) f5.2.2
  · have f1 := find_none (i := 0) h3 hk g3 g5' hm
    have f4 : lkp k es = none := by rw [← lkp_perm g2 g4,lkp_none hm]
    refine yield_pure ok (v := if cm then .tuple #[zv,.bool false] else zv) ?_ ?_
    · have := findKey_run (P := P) (w := w) h2 f1
      simp [Instr.lookup,run_underlying h1,hget,check_key h2 h3,this,z1]
    · rw [f4]
      exact RVal_lkR (ok := cm) (z := z) (r := none) z3 (fun y hy => by cases hy) (RV1_of_RVal z3 z2)
theorem lookupN_yield (ok : StOK c S (hp w) fp) {t e : TypeId} {s cm : Bool} {z : PV} {k : Key} {v u : Value} (ht : mapOf P t = some (s,e)) (hz : zeroE P e z = true) (hk : k.str = s)
    (hx : RVal c S (hp w) (.sc (.map none)) v) (hu : u = k.val) : Yield P c S w (do pure (.value (← Instr.lookup t v u cm))) S (lkR cm z none) := by
  obtain ⟨kt,td,h1,h2,h3⟩ := mapOf_spec ht
  have := sc_eq hx
  subst this hu
  obtain ⟨zv,z1,z2,z3⟩ := zero_run (c := c) (S := S) (w := w) hz
  refine yield_pure ok (v := if cm then .tuple #[zv,.bool false] else zv) ?_ ?_
  · have := findKey_run (P := P) (w := w) (ms := []) (kv := k.val) h2 rfl
    simp [Instr.lookup,run_underlying h1,check_key h2 h3,this,z1]
  · exact RVal_lkR (ok := cm) (z := z) (r := none) z3 (fun y hy => by cases hy) (RV1_of_RVal z3 z2)
theorem mkmap_yield (ok : StOK c S (hp w) fp) {t : TypeId} {id : Id} {s : Bool} (hn : S id = none) :
    Yield P c S w (do pure (.value (← Instr.makeMap t none))) (upds S [(id,.map s [])]) (.mp id) := by
  have ha : Adv c (setL c id ⟨w.heap.size,none,0⟩) S (upd S id (.map s [])) := Adv.new hn
  have fb := fresh_block ok
  refine ⟨_,.map (some w.heap.size),w.alloc (.map #[] 0),setL c id ⟨w.heap.size,none,0⟩,setF fp id [w.heap.size], ?_,.inl rfl,ok.new hn ?_ (by simp) (fun b hb => ?_),ha,⟨rfl,_,rfl,rfl, ?_⟩, ?_⟩
  · simp [Instr.makeMap]
  · refine ⟨⟨#[],0,[], ?_,.refl _,rfl,by simp,by simp,by simp,by simp⟩,by simp [setL]⟩
    simp only [setL,if_true]; exact hp_alloc_new
  · simp only [List.mem_singleton] at hb; subst hb; exact fb
  · simp [MapOK,upds,upd,setL]
  · refine ⟨rfl,rfl,rfl,by simp,fun a _ => ?_,Nat.le_refl _⟩
    simp only [World.frozen?,World.alloc,Array.getElem?_push]
    by_cases h : a.block = w.heap.size
    · rw [if_pos h,Array.getElem?_eq_none (by omega)]
    · rw [if_neg h]
theorem upds_ne {id : Id} : ∀ (ws : List (Id × OB)) (S : Sto),(∀ z ∈ ws,z.1 ≠ id) → upds S ws id = S id
  | [],_,_ => rfl
  | (i',o') :: r,S,hz => by
    simp only [upds]
    rw [upds_ne r _ (fun z hz' => hz z (List.mem_cons_of_mem _ hz'))]
    have := hz _ List.mem_cons_self
    simp only at this
    simp [upd,Ne.symm this]
theorem pack1_plain {g : Id → Option OB} {x y : PV} {ws} (e : pack1 false g x = some (y,ws)) : plain y = true := by
  unfold pack1 at e
  split at e
  · simp only [Option.some.injEq,Prod.mk.injEq] at e; obtain ⟨rfl,rfl⟩ := e; rfl
  · simp only [Option.some.injEq,Prod.mk.injEq] at e; obtain ⟨rfl,rfl⟩ := e; rfl
  · simp only [Option.some.injEq,Prod.mk.injEq] at e; obtain ⟨rfl,rfl⟩ := e; rfl
  · split at e
    · split at e
      · simp only [Bool.false_eq_true,if_false,Option.some.injEq,Prod.mk.injEq] at e; obtain ⟨rfl,rfl⟩ := e; rfl
      · cases e
    · split at e
      · simp only [Option.some.injEq,Prod.mk.injEq] at e; obtain ⟨rfl,rfl⟩ := e; rfl
      · cases e
    · cases e
  · cases e
theorem packs_plain {g : Id → Option OB} : ∀ {xs ys : List PV} {ws},packs false g xs = some (ys,ws) → plains ys = true
  | [],_,_,e => by simp only [packs,Option.some.injEq,Prod.mk.injEq] at e; obtain ⟨rfl,rfl⟩ := e; rfl
  | x :: xs,_,_,e => by
    simp only [packs] at e
    split at e
    · rename_i h1 h2
      simp only [Option.some.injEq,Prod.mk.injEq] at e
      obtain ⟨rfl,rfl⟩ := e
      simp [plains,pack1_plain h1,packs_plain h2]
    · cases e
theorem packE_plain {g : Id → Option OB} {x y : PV} {ws} (e : packE false g x = some (y,ws)) : plain y = true := by
  unfold packE at e
  split at e
  · split at e
    · rename_i h
      simp only [Option.some.injEq,Prod.mk.injEq] at e
      obtain ⟨rfl,rfl⟩ := e
      simpa [plain] using packs_plain h
    · cases e
  · exact pack1_plain e
theorem packE_RV1 {c' : Ctx} {S' : Sto} {x y : PV} {ws} {v : Value} (e : packE false S x = some (y,ws)) (hx : RVal c S (hp w) x v) (r : R c' S' (hp w) y v.cells.toList []) : RV1 c' S' (hp w) y v := by
  cases x with
  | agg cs =>
    simp only [packE] at e
    split at e
    · simp only [Option.some.injEq,Prod.mk.injEq] at e
      obtain ⟨rfl,rfl⟩ := e
      obtain ⟨vs,rfl,_,_⟩ := hx
      exact ⟨vs,rfl,by simpa [Value.cells] using r⟩
    · cases e
  | tup ps => simp [packE,pack1] at e
  | bx ps => simp [packE,pack1] at e
  | undef => simp [packE,pack1] at e
  | non => simp [packE,pack1] at e
  | _ =>
    have r' : R c S (hp w) _ [v] [] := hx
    simp only [packE] at e
    obtain ⟨u,e2,ho⟩ := R_one (by rfl) r'
    have : v = u := by simpa using e2
    subst this
    have hv : v.cells = #[v] := by cases v <;> first | rfl | (simp [Value.oneCell'] at ho)
    rw [hv] at r
    have hp1 := pack1_plain e
    cases y <;> first | exact r | (simp [plain] at hp1; done) | skip
    · unfold pack1 at e
      split at e <;> (repeat' split at e) <;> simp at e
theorem mapset_yield (ok : StOK c S (hp w) fp) {t e : TypeId} {s : Bool} {id : Id} {es : List (Key × PV)} {k : Key} {x y : PV} {ws} {v u z : Value} (ht : mapOf P t = some (s,e)) (hs : S id = some (.map s es)) (hk : k.str = s)
    (hx : RVal c S (hp w) (.mp id) v) (hu : u = k.val) (hy : RVal c S (hp w) x z) (hpk : packE false S x = some (y,ws)) (hnd : nodupId ((id,OB.dead) :: ws) = true) :
    YieldU P c S w (Instr.mapUpdate t v u z) (upds S (ws ++ [(id,.map s (ins k y es))])) := by
  obtain ⟨kt,td,h1,h2,h3⟩ := mapOf_spec ht
  obtain ⟨_,v',e1,_,hm⟩ := (show R c S (hp w) (.mp id) [v] [] from hx)
  have : v = v' := by simpa using e1
  subst this
  simp only [MapOK,hs] at hm
  subst hm hu
  simp only [nodupId,Bool.and_eq_true,List.all_eq_true] at hnd
  obtain ⟨c1,fp1,f,pk,ry,hty,hyc⟩ := packE_ok ok hy hpk hnd.2
  have hpl := packE_plain hpk
  have hf : f = [] := plain_fp hpl ry
  subst hf
  have hmv : MV c1 (upds S ws) (hp w) y z := ⟨hpl,hty,packE_RV1 hpk hy ry⟩
  have hs1 : upds S ws id = some (.map s es) := by
    rw [upds_ne ws S (fun z hz => by simpa using hnd.1 z hz)]; exact hs
  have hL : c1.L = c.L := pk.L
  obtain ⟨⟨ms,clock,es',g1,g2,g3,g4,g5,g6,g7⟩,hfp⟩ := pk.ok.ob id _ hs1
  have g4' : (es'.map (·.1)).Nodup := (g2.map _).nodup g4
  have g5' : ∀ k ∈ es'.map (·.1),k.str = s := fun k hk => g5 k ((g2.map _).mem_iff.2 hk)
  rw [hL] at g1
  have hget : (getObj (c.L id).blk).run P w = .ok (.map ms clock) w := MapKept.run_getObj_map g1
  -- the new world
  have key : ∀ (ms' : Array MapEntry) (clock' : Nat),(Instr.mapUpdate t (.map (some (c.L id).blk)) k.val z).run P w = .ok () { w with heap := w.heap.setIfInBounds (c.L id).blk (.map ms' clock') } →
      (∃ es2,(ins k y es).Perm es2 ∧ Ents c1 (upds S ws) (hp w) es2 ms'.toList) → (∀ e ∈ ms'.toList,e.born < clock') → (ms'.toList.map (·.born)).Nodup →
      YieldU P c S w (Instr.mapUpdate t (.map (some (c.L id).blk)) k.val z) (upds S (ws ++ [(id,.map s (ins k y es))])) := by
    intro ms' clock' hrun ⟨es2,p1,p2⟩ p3 p4
    have hlt := hp_lt g1
    have hpn : ∀ b,b ≠ (c.L id).blk → hp { w with heap := w.heap.setIfInBounds (c.L id).blk (.map ms' clock') } b = hp w b := fun b hb => by
      simp only [hp,Array.getElem?_setIfInBounds]
      rw [if_neg (Ne.symm hb)]
    have hpe : hp { w with heap := w.heap.setIfInBounds (c.L id).blk (.map ms' clock') } (c.L id).blk = some (.map ms' clock') := by
      simp only [hp,Array.getElem?_setIfInBounds,if_true]
      rw [if_pos hlt]
    have ha : Adv c1 c1 (upds S ws) (upd (upds S ws) id (.map s (ins k y es))) := by
      refine ⟨fun _ _ h => h,rfl,fun j o hjo => ?_⟩
      by_cases hji : j = id
      · rw [hji,hs1] at hjo
        simp only [Option.some.injEq] at hjo
        rw [← hjo]
        exact ⟨.map s (ins k y es),by simp [upd,hji],rfl⟩
      · exact ⟨o,by simp [upd,hji,hjo],StepOB.rfl' rfl⟩
    have hne : ∀ b,b ∉ fp1 id → hp { w with heap := w.heap.setIfInBounds (c.L id).blk (.map ms' clock') } b = hp w b := fun b hb => hpn b (fun e => hb (by rw [hfp,e,hL]; exact List.mem_singleton.2 rfl))
    refine ⟨_,c1,fp1,hrun, ?_,pk.adv.trans (by rw [upds_snoc]; exact ha),⟨rfl,rfl,rfl,by simp,fun a _ => ?_,Nat.le_refl _⟩⟩
    · rw [upds_snoc]
      refine pk.ok.step ha (fun x => x = id) ?_ ?_ ?_ pk.ok.dis
      · intro x ob' hx hxi
        have hx' : upds S ws x = some ob' := by simpa [upd,hxi] using hx
        exact ⟨hx',rfl,rfl,fun b hb => ⟨hne b (pk.ok.dj x id ob' _ hx' hs1 hxi b hb),pk.ok.nF x ob' hx' b hb⟩⟩
      · rintro x ob' hx rfl
        have he : ob' = .map s (ins k y es) := by simpa [upd,eq_comm] using hx
        subst he
        refine ⟨⟨⟨ms',clock',es2,by rw [hL]; exact hpe,p1,p2.data (fun _ _ h => h),ins_nodup g4,ins_str hk g5,p3,p4⟩,hfp⟩,pk.ok.nd x _ hs1,pk.ok.nF x _ hs1,fun id' ob'' hid hs' b hb => pk.ok.dj x id' _ ob'' hs1 (by simpa [upd,hid] using hs') (Ne.symm hid) b hb⟩
      · intro b o hb
        rw [hne b (fun hb' => (pk.ok.nF id _ hs1 b hb').no hb)]
        exact pk.ok.okF b o hb
    · have hw : w.heap[(c.L id).blk]? = some (.map ms clock) := g1
      simp only [World.frozen?,Array.getElem?_setIfInBounds]
      by_cases hb : (c.L id).blk = a.block
      · rw [if_pos hb,if_pos hlt,← hb,hw]
      · rw [if_neg hb]
  by_cases hm : k ∈ es'.map (·.1)
  · obtain ⟨j,en,x',f1,f2,f3,f4,f5,f6⟩ := find_some (i := 0) h3 hk g3 g5' g4' hm
    have hfk := findKey_run (P := P) (w := w) h2 f1
    have f2' : ms[j]? = some en := by simpa using f2
    have hsb : Instr.sameBits 10000 k.val k.val = true := by cases k <;> simp [Key.val,Instr.sameBits,ba_beq]
    have hset := MapKept.run_setObj_map (P := P) (.map (ms.modify j fun e => { e with key := k.val,val := z }) clock) g1
    refine key (ms.modify j fun e => { e with key := k.val,val := z }) clock ?_ ⟨_,ins_perm g2 g4,by simpa using f6 y z hmv⟩ ?_ ?_
    · simp [Instr.mapUpdate,run_underlying h1,hget,check_key h2 h3,hfk,Instr.keyThatStays,f2',f3,hsb,hset]
    · intro e he
      simp only [Array.toList_modify] at he
      obtain ⟨i,hi,rfl⟩ := List.getElem_of_mem he
      rw [List.getElem_modify]
      have hi' : i < ms.toList.length := by simpa using hi
      have := g6 _ (List.getElem_mem hi')
      split
      · exact this
      · exact this
    · have : ((ms.modify j fun e => { e with key := k.val,val := z }).toList.map (·.born)) = ms.toList.map (·.born) := by
        simp only [Array.toList_modify]
        apply List.ext_getElem?
        intro i
        simp only [List.getElem?_map,List.getElem?_modify]
        by_cases hi : j = i
        · subst hi
          simp only [if_true]
          cases ms.toList[j]? <;> rfl
        · simp [hi]
      rw [this]; exact g7
  · have f1 := find_none (i := 0) h3 hk g3 g5' hm
    have hfk := findKey_run (P := P) (w := w) h2 f1
    have hset := MapKept.run_setObj_map (P := P) (.map (ms.push { key := k.val,val := z,born := clock }) (clock + 1)) g1
    refine key (ms.push { key := k.val,val := z,born := clock }) (clock + 1) ?_ ⟨_,ins_perm g2 g4, ?_⟩ ?_ ?_
    · simp [Instr.mapUpdate,run_underlying h1,hget,check_key h2 h3,hfk,hset]
    · rw [ins_none hm]
      simpa using Ents.app (e := { key := k.val,val := z,born := clock }) rfl hmv g3
    · intro e he
      simp only [Array.toList_push,List.mem_append,List.mem_singleton] at he
      rcases he with he | rfl
      · have := g6 e he; omega
      · simp
    · simp only [Array.toList_push,List.map_append,List.map_cons,List.map_nil]
      rw [List.nodup_append]
      refine ⟨g7,by simp,fun a ha b hb e => ?_⟩
      simp only [List.mem_singleton] at hb
      subst hb; subst e
      obtain ⟨en,he,hb⟩ := List.mem_map.1 ha
      have := g6 en he
      omega
end
end Go.Am
end
section
/- Parts of rows: looked into,cut off,cleared. -/
set_option linter.unusedSimpArgs false
set_option linter.unusedVariables false
namespace Go.Am
open Go.RowKit
section
variable {P : Program} {c : Ctx} {S : Sto} {w : World} {fp : Id → List Nat}
theorem sub_of {id : Id} {n i : Nat} {v : Value} (h : RVal c S (hp w) (.sub id n i) v) : SubOK c S id n i v := by
  obtain ⟨_,v',e,_,h⟩ := (show R c S (hp w) (.sub id n i) [v] [] from h)
  have : v = v' := by simpa using e
  subst this
  exact h
theorem newOver {id : Id} {ob : OB} {l : Loc} {f : List Nat} (ok : StOK c S (hp w) fp) (hn : S id = none) (hro : RO (setL c id l) (upd S id ob) (hp w) id ob f) (hf : Free c S fp f) : StOK (setL c id l) (upd S id ob) (hp w) (setF fp id f) := by
  refine ok.step (Adv.new hn) (fun x => x = id) ?_ ?_ ok.okF ok.dis
  · intro x ob' hx hne
    have hx' : S x = some ob' := by simpa [upd,hne] using hx
    exact ⟨hx',by simp [setL,hne],by simp [setF,hne],fun b hb => ⟨rfl,ok.nF x ob' hx' b hb⟩⟩
  · rintro x ob' hx rfl
    have he : ob' = ob := by simpa [upd,eq_comm] using hx
    subst he
    refine ⟨by simpa [setF] using hro,by simpa [setF] using hf.1,fun b hb => (hf.2 b (by simpa [setF] using hb)).1,fun id' ob'' hne hs b hb => ?_⟩
    simp only [setF,if_true] at hb
    simp only [setF,hne,if_false]
    exact (hf.2 b hb).2 id' ob'' (by simpa [upd,hne] using hs)
theorem sliceOf_lo {n l h : Nat} {bs : List PV} {hi : Bool} (e : sliceOf false hi n bs = some (l,h)) : l = 0 := by
  unfold sliceOf at e
  split at e <;> (repeat' split at e) <;> simp_all
theorem trim_yield (ok : StOK c S (hp w) fp) {t e : TypeId} {ti : TypeInfo} {k l h : Nat} {hi : Bool} {id nid : Id} {xs bs : List PV} {v : Value} {us : List Value} (ht : elemOfS P t = some (e,ti)) (hes : ti.size = k) (hs : S id = some (.row k xs))
    (hb : sliceOf false hi xs.length bs = some (l,h)) (hn : S nid = none) (hx : RVal c S (hp w) (.own id xs.length) v) (hr : RVals c S (hp w) bs us) :
    Yield P c S w (do pure (.value (← Instr.sliceAt t v (bnds false hi us).1 (bnds false hi us).2 none))) (upds S [(id,.dead),(nid,.row k (xs.take h))]) (.own nid h) := by
  have hne : nid ≠ id := fun h => by rw [h,hs] at hn; cases hn
  obtain ⟨_,v',e1,h1,h2⟩ := (show R c S (hp w) (.own id xs.length) [v] [] from hx)
  have : v = v' := by simpa using e1
  subst this
  simp only [OwnOK,hs] at h2
  have h3 := h2.2 trivial
  subst h3
  obtain ⟨t1,hk,ro⟩ := ok.ob id _ hs
  have hcap : xs.length ≤ (c.L id).cap ∨ xs.length = 0 := by
    rcases ro with r | ⟨fq,hb,⟨cur,et,ws,_,hcp,_⟩,_⟩
    · right; rw [r.1]; rfl
    · exact .inl hcp
  obtain ⟨hrun,h4,h5⟩ := bounds_run (P := P) hb hr hcap
  have hl := sliceOf_lo hb
  subst hl
  obtain ⟨k1,k2⟩ := ok.kill hs
  have hn1 : upd S id .dead nid = none := by simp [upd,hne,hn]
  have hlen : (xs.take h).length = h := by rw [List.length_take]; omega
  have hfree : ∀ f : List Nat,f.Nodup → (∀ b ∈ f,b ∈ fp id) → Free c (upd S id .dead) (setF fp id []) f := fun f hf hsub => ⟨hf,fun b hb => ⟨ok.nF id _ hs b (hsub b hb),fun x o hx hb' => by
    by_cases hxi : x = id
    · rw [hxi] at hb'; simp [setF] at hb'
    · simp only [setF,hxi,if_false] at hb'
      have hx' : S x = some o := by simpa [upd,hxi] using hx
      exact ok.dj id x _ o hs hx' (Ne.symm hxi) b (hsub b hb) hb'⟩⟩
  have ha : Adv c (setL c nid (c.L id)) (upd S id .dead) (upd (upd S id .dead) nid (.row k (xs.take h))) := Adv.new hn1
  have htk : trees (xs.take h) = true := trees_take _ t1
  have hlk : Ls k (xs.take h) := fun x hx => hk x (List.mem_of_mem_take hx)
  obtain ⟨f,hst⟩ : ∃ f,StOK (setL c nid (c.L id)) (upd (upd S id .dead) nid (.row k (xs.take h))) (hp w) (setF (setF fp id []) nid f) := by
    rcases ro with r | ⟨fq,hbase,⟨cur,et,ws,g1,g2,g3,g4,g5,g6⟩,hfp⟩
    · refine ⟨[],newOver k1 hn1 ⟨htk,hlk,.inl ⟨by rw [r.1]; simp,by simpa [setL] using r.2.1,rfl⟩⟩ Free.nil⟩
    · have e2 : xs = xs.take h ++ xs.drop h := (List.take_append_drop h xs).symm
      rw [e2] at g5
      obtain ⟨v1,v2,f1,f2,rfl,ef,r1,r2⟩ := Rs_append.1 g5
      have l1 : v1.length = h * k := by rw [(Rs_len hlk r1).1,hlen]
      have hnd := ok.nd id _ hs
      rw [hfp,ef] at hnd
      refine ⟨(c.L id).blk :: f1,newOver k1 hn1 ⟨htk,hlk,.inr ⟨f1,by simpa [setL] using hbase,⟨cur,et,v1,by simpa [setL] using g1,by simp only [setL,if_true]; omega,by simpa [setL] using g3,by simpa [setL] using g4,Rs.adv (h := hp w) (k2.trans ha) _ _ _ (fun _ _ => rfl) r1, ?_⟩,by simp [setL]⟩⟩ (hfree _ ?_ fun b hb => ?_)⟩
      · rw [hlen,← l1]
        have : cur.toList.take (h * k) = v1 := by
          have h6 : cur.toList.take (xs.length * k) = v1 ++ v2 := g6
          have h7 : h * k ≤ xs.length * k := Nat.mul_le_mul_right _ h5
          have := congrArg (List.take (h * k)) h6
          rw [List.take_take,Nat.min_eq_left h7] at this
          rw [this,← l1,List.take_append_of_le_length (Nat.le_refl _),List.take_length]
        rw [l1]; exact this
      · refine List.Nodup.sublist ?_ hnd
        exact List.Sublist.cons_cons _ (List.sublist_append_left _ _)
      · rw [hfp,ef]
        rcases List.mem_cons.1 hb with h | h
        · rw [h]; exact List.mem_cons_self
        · exact List.mem_cons_of_mem _ (List.mem_append_left _ h)
  have hval : (if (c.L id).cap = 0 then (c.L id).base else (c.L id).base.map (·.add (0 * ti.size))) = (c.L id).base := by
    split
    · rfl
    · rcases ro with r | ⟨fq,hbase,_⟩
      · rename_i hc; exact absurd r.2.1 hc
      · rw [hbase]; simp [add_off]
  have hsl := sliceAt_run (A := (c.L id).base) ht hrun
  rw [hval] at hsl
  refine ⟨_,.slice (c.L id).base (h - 0) ((c.L id).cap - 0),w,_,_,by simp [hsl],.inl rfl,hst,k2.trans ha,⟨rfl,_,rfl,rfl, ?_⟩,Grew.refl _⟩
  have hS2 : upds S [(id,.dead),(nid,.row k (xs.take h))] nid = some (.row k (xs.take h)) := by simp [upds,upd]
  simp only [OwnOK,hS2]
  exact ⟨by omega,fun _ => by simp [setL]⟩
theorem lenSub_yield (ok : StOK c S (hp w) fp) {t ty : TypeId} {id : Id} {k i : Nat} {xs : List PV} {v : Value} (ht : isSl P t = true) (hs : S id = some (.row k xs)) (hx : RVal c S (hp w) (.sub id xs.length i) v) :
    Yield P c S w (do pure (.value (← Builtin.len_ #[t] ty #[v]))) S (.i (xs.length - i : Nat)) := by
  have h := sub_of hx
  simp only [SubOK,hs] at h
  exact len_yield ok ht ⟨_,_,(h.2 trivial).2⟩
theorem iaddrSub_yield (ok : StOK c S (hp w) fp) {t e : TypeId} {ti : TypeInfo} {es i : Nat} {id : Id} {xs : List PV} {q : Int} {v u} (ht : elemOfS P t = some (e,ti)) (hes : ti.size = es) (hs : S id = some (.row es xs))
    (hq : ib q (xs.length - i) = true) (hv : RVal c S (hp w) (.sub id xs.length i) v) (hu : RVal c S (hp w) (.i q) u) :
    Yield P c S w (do pure (.value (← Instr.indexAt t v u))) S (.ref id xs.length (i + q.toNat) 0) := by
  rw [sc_eq hu]
  have h := sub_of hv
  simp only [SubOK,hs] at h
  obtain ⟨h1,h2⟩ := h.2 trivial
  have hq' := ib_iff.1 hq
  obtain ⟨_,hk,ro⟩ := ok.ob id _ hs
  rcases ro with ro | ⟨fq,hb,⟨cur,et,ws,_,hcp,_⟩,_⟩
  · rw [ro.1] at hq'; simp at hq'; omega
  · have hne : ¬ (c.L id).cap = i := by omega
    rw [h2,if_neg hne,hb]
    have hadd : (⟨(c.L id).blk,0,none⟩ : Addr).add (i * es) = ⟨(c.L id).blk,i * es,none⟩ := by rw [add_off]; simp
    simp only [Option.map_some,hadd]
    refine yield_pure ok (v := .pointer (some ⟨(c.L id).blk,(i + q.toNat) * es + 0,none⟩)) (by rw [run_indexSl ht hes hq,add_off,Nat.add_mul]; simp) ⟨rfl,_,rfl,rfl, ?_⟩
    simp only [RefOK,hs]
    exact ⟨Nat.le_refl _,fun _ => trivial⟩
theorem clear_yield (ok : StOK c S (hp w) fp) {t ty e : TypeId} {ti : TypeInfo} {k i : Nat} {z : PV} {zv : Value} {id : Id} {xs : List PV} {v : Value}
    (ht : elemOfS P t = some (e,ti)) (hi : ti.size = k) (hk0 : 0 < k) (hz : ti.zero = some zv) (hzl : litsOK z.cells zv.cells.toList = true) (hf : flatE z = true) (htr : tree z = true) (hzk : z.cells.length = k)
    (hs : S id = some (.row k xs)) (hx : RVal c S (hp w) (.sub id xs.length i) v) :
    Yield P c S w (do pure (.value (← Builtin.clear_ #[t] ty #[v]))) (upds S [(id,.row k (xs.take i ++ List.replicate (xs.length - i) z))]) (.tup []) := by
  obtain ⟨hu,hinf⟩ := elem_of ht
  have h := sub_of hx
  simp only [SubOK,hs] at h
  obtain ⟨h1,h2⟩ := h.2 trivial
  obtain ⟨htx,hkx,ro⟩ := ok.ob id _ hs
  by_cases h0 : xs.length - i = 0
  · have hrow : xs.take i ++ List.replicate (xs.length - i) z = xs := by
      rw [h0,List.replicate_zero,List.append_nil,List.take_of_length_le (by omega)]
    rw [hrow]
    have hS : upds S [(id,.row k xs)] = S := by
      funext y
      by_cases hy : y = id
      · simp [upds,upd,hy,hs]
      · simp [upds,upd,hy]
    rw [hS]
    refine yield_pure ok (v := .tuple #[]) ?_ ⟨[],rfl,rfl⟩
    rw [h2,h0]
    cases (if (c.L id).cap = i then (c.L id).base else (c.L id).base.map (·.add (i * k))) <;> simp [Builtin.clear_,run_underlying hu]
  · rcases ro with ro | ⟨fq,hb,⟨cur,et,ws,g1,g2,g3,g4,g5,g6⟩,hfp⟩
    · rw [ro.1] at h0; simp at h0
    have hne : ¬ (c.L id).cap = i := by omega
    have hadd : (⟨(c.L id).blk,0,none⟩ : Addr).add (i * k) = ⟨(c.L id).blk,i * k,none⟩ := by rw [add_off]; simp
    rw [if_neg hne,hb] at h2
    simp only [Option.map_some,hadd] at h2
    obtain ⟨r,hcp,_⟩ := litsOK_R (c := c) (S := S) (h := hp w) hzl
    have hR : R c S (hp w) z zv.cells.toList [] := by
      cases z with
      | agg cs => exact ⟨hcp,r⟩
      | tup ps => simp [flatE] at hf
      | bx ps => simp [flatE] at hf
      | _ =>
        simp only [PV.cells,Rs] at r
        obtain ⟨v1,v2,f1,f2,h1,h2,h3,h4,h5⟩ := r
        rw [h4] at h1
        have hf' := List.append_eq_nil_iff.1 h2.symm
        rw [h1,List.append_nil]
        rw [hf'.1] at h3
        exact h3
    have hzs : zv.cells.size = k := by
      have := (R_len hf hR).1
      simpa [hzk] using this
    generalize hn : xs.length - i = n at *
    have hLs : Ls k (List.replicate n z) := fun y hy => by rw [List.eq_of_mem_replicate hy]; exact ⟨hzk,hf⟩
    have hRs := Rs_replicate hR n
    have hcl : (Builtin.zeroCells zv.cells n).toList = (List.replicate n zv.cells.toList).flatten := by
      rw [← madeCells_flatten zv.cells (by omega) n]; rfl
    have hzlen : (List.replicate n zv.cells.toList).flatten.length = n * k := by simpa using (Rs_len hLs hRs).1
    have hzone := (Rs_len hLs hRs).2
    have e2 : xs = xs.take i ++ xs.drop i := (List.take_append_drop i xs).symm
    rw [e2] at g5
    obtain ⟨v1,v2,f1,f2,rfl,ef,r1,r2⟩ := Rs_append.1 g5
    have htl : (xs.take i).length = i := by rw [List.length_take]; omega
    have l1 : v1.length = i * k := by rw [(Rs_len (fun x hx => hkx x (List.mem_of_mem_take hx)) r1).1,htl]
    have hik : i * k + n * k = xs.length * k := by rw [← Nat.add_mul]; congr 1; omega
    have hck : xs.length * k ≤ (c.L id).cap * k := Nat.mul_le_mul_right _ g2
    have hst := run_storeCells_at P (c.L id).blk (i * k) et (Builtin.zeroCells zv.cells n).toList 0 cur w g1 (by rw [hcl,hzlen]; simp only [Nat.add_zero]; omega) (by rw [hcl]; exact hzone)
    rw [hcl,hzlen] at hst
    simp only [Nat.add_zero] at hst
    have hlen : (xs.take i ++ List.replicate n z).length = xs.length := by simp; omega
    have ha : Adv c (setL c id (c.L id)) S (upd S id (.row k (xs.take i ++ List.replicate n z))) := Adv.row hs (by omega) (fun _ => rfl)
    have hblk : (c.L id).blk ∈ fp id := by rw [hfp]; exact List.mem_cons_self
    have hnd := ok.nd id _ hs
    rw [hfp,ef] at hnd
    have hzr : (zeroValue e).run P w = .ok zv w := by simp [zeroValue,typeInfo,hinf,hz]
    have hdrop : cur.toList.take (i * k) = v1 := by
      have h6 : cur.toList.take (xs.length * k) = v1 ++ v2 := g6
      have := congrArg (List.take (i * k)) h6
      rw [List.take_take,Nat.min_eq_left (by omega)] at this
      rw [this,← l1,List.take_append_of_le_length (Nat.le_refl _),List.take_length]
    refine ⟨_,.tuple #[],w.setRow (c.L id).blk (cur.toList.take (i * k) ++ (List.replicate n zv.cells.toList).flatten ++ cur.toList.drop (i * k + n * k)).toArray,setL c id (c.L id),setF fp id ((c.L id).blk :: f1), ?_,.inl rfl, ?_,ha,⟨[],rfl,rfl⟩,Grew.setRow _ _ _⟩
    · rw [h2]
      obtain ⟨n',rfl⟩ : ∃ n',n = n' + 1 := ⟨n - 1,by omega⟩
      simp only [Builtin.clear_]
      simp [run_underlying hu,hzr]
      rw [show (Builtin.zeroCells zv.cells (n' + 1)).toList = (List.replicate (n' + 1) zv.cells.toList).flatten from hcl]
      simp [hst]
    · refine ok.reset hs ha ?_ (List.Nodup.sublist (List.Sublist.cons_cons _ (List.sublist_append_left _ _)) hnd) (fun b hb => ?_) (fun b _ hb => hp_setRow (fun e => hb (by rw [e]; exact hblk)))
      · refine ⟨trees_append (trees_take _ htx) (trees_replicate htr _),fun x hx => ?_,.inr ⟨f1,by simpa [setL] using hb,⟨_,et,v1 ++ (List.replicate n zv.cells.toList).flatten,by simp only [setL,if_true]; exact setRow_heap w _ cur _ et (0,0) g1,by simp only [setL,if_true]; omega,by simpa [setL] using g3, ?_, ?_, ?_⟩,by simp [setL]⟩⟩
        · rcases List.mem_append.1 hx with h | h
          · exact hkx x (List.mem_of_mem_take h)
          · exact hLs x h
        · simp only [setL,if_true,List.size_toArray,List.length_append,List.length_take,List.length_drop,Array.length_toList,hzlen] at g4 ⊢
          omega
        · refine Rs.adv (h := hp w) ha _ _ _ (fun b hb => ?_) (Rs_append.2 ⟨_,_,f1,[],rfl,by simp,r1,hRs⟩)
          refine hp_setRow (fun e => ?_)
          exact (List.nodup_cons.1 hnd).1 (List.mem_append_left _ (e ▸ hb))
        · rw [hlen,hdrop,List.take_append_of_le_length (by simp only [List.length_append,hzlen]; omega),List.take_of_length_le (by simp only [List.length_append,hzlen]; omega)]
      · have hb' : b ∈ fp id := by
          rw [hfp,ef]
          rcases List.mem_cons.1 hb with h | h
          · rw [h]; exact List.mem_cons_self
          · exact List.mem_cons_of_mem _ (List.mem_append_left _ h)
        exact ⟨ok.nF id _ hs b hb',fun id' ob' hne' hs' => ok.dj id id' _ ob' hs hs' (Ne.symm hne') b hb'⟩
def isPair (P : Program) (t : TypeId) : Bool :=
  match P.underlying t with
  | some (.struct fs) => match fs.toList with
    | [f,g] => f.name != "_" && g.name != "_" && f.offset == 0 && g.offset == 1 && (match P.underlying f.type,P.underlying g.type with | some (.int .i64),some (.int .i64) => true | _,_ => false) &&
        kindOf P f.type == some none && kindOf P g.type == some none && !P.stoodInHeld t && !P.eqGuardType P.depth t
    | _ => false
  | _ => false
theorem part_run {t : TypeId} {a : Array Value} {o : Nat} {v : Value} (hk : kindOf P t = some none) (h : a[o]? = some v) : (part t a o).run P w = .ok v w := by
  unfold kindOf at hk
  split at hk <;> simp at hk
  rename_i d i g1 g2 n1 n2
  have hi : (isAgg t).run P w = .ok false w := by
    simp only [isAgg,Sem.run_bind,run_underlying n1 w,Result.andThen_ok]
    rfl
  simp [part,hi,h]
theorem pair_eq {t : TypeId} {a b a' b' : Int} (ht : isPair P t = true) : (Op.equalIn 10000 t (.agg #[.int .i64 a,.int .i64 b]) (.agg #[.int .i64 a',.int .i64 b'])).run P w = .ok (decide (a = a') && decide (b = b')) w := by
  unfold isPair at ht
  split at ht
  · rename_i fs hu
    split at ht
    · rename_i f g hfs
      simp only [Bool.and_eq_true] at ht
      obtain ⟨⟨⟨⟨⟨⟨⟨⟨h1,h2⟩,h3⟩,h4⟩,h5⟩,h6⟩,h7⟩,h8⟩,_⟩ := ht
      have h3 := eq_of_beq h3
      have h4 := eq_of_beq h4
      have h6 := eq_of_beq h6
      have h7 := eq_of_beq h7
      have hff : P.fieldsOf t = fs := by simp [Program.fieldsOf,hu]
      have h1 : f.name ≠ "_" := by simpa using h1
      have h2 : g.name ≠ "_" := by simpa using h2
      split at h5
      · rename_i hf hg
        rw [show (10000 : Nat) = 9999 + 1 from rfl,run_equalIn_agg w 9999 t _ _ (by rw [hff]; exact hu) (by simpa using h8),hff,hfs]
        rw [show (9999 : Nat) = 9998 + 1 from rfl]
        have e1 := run_equalIn_int w 9998 f.type .i64 .i64 a a' hf
        have e2 := run_equalIn_int w 9998 g.type .i64 .i64 b b' hg
        have p1 : (part f.type #[Value.int .i64 a,.int .i64 b] f.offset).run P w = .ok (.int .i64 a) w := part_run h6 (by rw [h3]; rfl)
        have p2 : (part f.type #[Value.int .i64 a',.int .i64 b'] f.offset).run P w = .ok (.int .i64 a') w := part_run h6 (by rw [h3]; rfl)
        have p3 : (part g.type #[Value.int .i64 a,.int .i64 b] g.offset).run P w = .ok (.int .i64 b) w := part_run h7 (by rw [h4]; rfl)
        have p4 : (part g.type #[Value.int .i64 a',.int .i64 b'] g.offset).run P w = .ok (.int .i64 b') w := part_run h7 (by rw [h4]; rfl)
        have hb1 : (a == a') = decide (a = a') := rfl
        have hb2 : (b == b') = decide (b = b') := rfl
        rw [hb1] at e1
        rw [hb2] at e2
        generalize decide (a = a') = x at *
        generalize decide (b = b') = y at *
        rw [Op.eqFields,if_pos h1]
        simp only [Sem.run_bind,p1,p2,Result.andThen_ok,e1]
        cases x with
        | false => simp
        | true =>
          simp only [Bool.not_true,Bool.false_eq_true,if_false]
          rw [Op.eqFields,if_pos h2]
          simp only [Sem.run_bind,p3,p4,Result.andThen_ok,e2]
          cases y <;> simp [Op.eqFields]
      · cases h5
    · cases ht
  · cases ht
theorem meq_yield (ok : StOK c S (hp w) fp) {t : TypeId} {a b a' b' : Int} {neg : Bool} {v u : Value} {ox oy : Operand} (ht : isPair P t = true) (hx : RVal c S (hp w) (.agg [.i a,.i b]) v) (hy : RVal c S (hp w) (.agg [.i a',.i b']) u) :
    Yield P c S w (do pure (.value (← (do eqGuard (if neg then .neq else .eql) t ox oy v u; binOp (if neg then .neq else .eql) t v u)))) S (.b (neg != (decide (a = a') && decide (b = b')))) := by
  have hv : ∀ {a b : Int} {v : Value},RVal c S (hp w) (.agg [.i a,.i b]) v → v = .agg #[.int .i64 a,.int .i64 b] := by
    intro a b v h
    obtain ⟨vs,rfl,_,u1,u2,g1,g2,rfl,_,⟨_,rfl,_⟩,u3,u4,g3,g4,rfl,_,⟨_,rfl,_⟩,rfl,_⟩ := h
    rfl
  rw [hv hx,hv hy]
  have hg : P.eqGuardType P.depth t = false := by
    unfold isPair at ht
    split at ht
    · split at ht
      · simp only [Bool.and_eq_true] at ht
        simpa using ht.2
      · cases ht
    · cases ht
  have he := pair_eq (w := w) (a := a) (b := b) (a' := a') (b' := b') ht
  refine yield_pure ok (v := .bool (neg != (decide (a = a') && decide (b = b')))) ?_ (sc_of rfl)
  cases neg with
  | true =>
    have := run_eqGuard_agg (P := P) w .neq t ox oy #[.int .i64 a,.int .i64 b] #[.int .i64 a',.int .i64 b'] hg
    simp [this,run_neq_struct,he]
  | false =>
    have := run_eqGuard_agg (P := P) w .eql t ox oy #[.int .i64 a,.int .i64 b] #[.int .i64 a',.int .i64 b'] hg
    simp [this,run_eql_struct,he]
end
end Go.Am
end
section
/- Every operation but a call: what the machine yields,the model does. -/
set_option linter.unusedSimpArgs false
set_option linter.unusedVariables false
namespace Go.Am
open Go.RowKit
def opArgs : Op → List Operand
  | .move x | .assign x | .nilCheck x | .box _ x | .load _ x | .unOp _ _ x | .convert _ _ x | .fieldAddr _ x _ | .field _ x _ | .extract x _ => [x]
  | .pick c a b => [c,a,b]
  | .build _ ps | .buildSlice _ _ ps => ps.toList.map (·.2)
  | .store _ a x => [a,x]
  | .binOp _ _ x y _ => [x,y]
  | .makeFunc _ _ cs => cs.toList
  | .makeSlice _ l c => [l,c]
  | .indexAddr _ x i | .index _ x i => [x,i]
  | .slice _ x lo hi _ => x :: (lo.toList ++ hi.toList)
  | .makeMap _ r => r.toList
  | .lookup _ x i _ => [x,i]
  | .mapUpdate _ m k x | .insert _ m k x => [m,k,x]
  | .call c => match c.callee with | .value f => f :: c.args.toList | _ => c.args.toList
  | _ => []
def okBslice (P : Program) (t : TypeId) (k n : Nat) (is : List Nat) : Bool :=
  match elemOfS P t with
  | some (_,i) => decide (i.size = k) && decide (0 < k) && i.zero.isSome && decide (n * k ≤ 16777216) && is == List.range' 0 n
  | none => false
def okMk (P : Program) (t : TypeId) (k : Nat) (z : PV) : Bool :=
  match elemOfS P t with
  | some (_,i) => match i.zero with
    | some zv => decide (i.size = k) && decide (0 < k) && decide (i.bytes ≤ 65536) && litsOK z.cells zv.cells.toList && flatE z && tree z && decide (z.cells.length = k)
    | none => false
  | none => false
def isInt (P : Program) (t : TypeId) (k : IntKind) : Bool := match P.underlying t with | some (.int k') => decide (k' = k) | _ => false
def okBuiltin (P : Program) (k : K) (b : Builtin) (ts : List TypeId) : Bool :=
  match k,b,ts with
  | .len,.len,[t] => isSl P t
  | .lens,.len,[t] => isStr P t
  | .append k _,.append,[t,t'] => t == t' && appOf P t k
  | .min2,.min,_ => true
  | .max2,.max,_ => true
  | .clear k z,.clear,[t] => okMk P t k z
  | .copy,.copy,[t,_] => (elemOfS P t).map (·.2.size) == some 1
  | _,_,_ => false
def isBytes (P : Program) (s : TypeId) : Bool := match P.underlying s with
  | some (.slice e) => (match P.underlying e with | some (.int .u8) => true | _ => false)
  | _ => false
def okOp (P : Program) (k : K) (op : Op) : Bool :=
  match k,op with
  | .move,.move _ => true
  | .move,.assign _ => true
  | .pick,.pick _ _ _ => true
  | .nck,.nilCheck _ => true
  | .alloc z,.alloc t => zeroOK P t z
  | .box,.box _ _ => true
  | .build z offs,.build t ps => buildOK P t (ps.toList.map (·.1)) z offs
  | .bslice k _,.buildSlice t n ps => decide (n = ps.size) && okBslice P t k n (ps.toList.map (·.1))
  | .eslice _,.buildSlice t n ps => decide (n = 0) && decide (ps.size = 0) && (elemOfS P t).isSome
  | .load k _,.load t _ => kindOf P t == some k
  | .store wd _,.store t _ _ => (P.info? t).map (·.size) == some wd
  | .bin b,.binOp o _ _ _ _ => bkOK b o
  | .beq,.binOp .eql t _ _ _ => isBool P t
  | .bne,.binOp .neq t _ _ _ => isBool P t
  | .not,.unOp .not _ _ => true
  | .neg,.unOp .neg _ _ => true
  | .faddr off,.fieldAddr t _ f => (fieldOf P t f).map (·.1) == some off
  | .iaddr es,.indexAddr t _ _ => (elemOfS P t).map (·.2.size) == some es
  | .iarr es n,.indexAddr t _ _ => (arrOf P t).map (fun x => (x.1,x.2.2)) == some (n,es)
  | .idx k es n,.index t _ _ => (match arrOf P t with | some (m,e,s) => decide (m = n) && decide (s = es) && kindOf P e == some k | none => false)
  | .istr,.index t _ _ => isStr P t
  | .fld k off,.field t _ f => (match fieldOf P t f with | some (o,ft) => decide (o = off) && kindOf P ft == some k | none => false)
  | .ext i,.extract _ j => i == j
  | .mkslice k z,.makeSlice t _ _ => okMk P t k z
  | .mkfunc f,.makeFunc (.func g) first _ => f == g && first.size == 0
  | .conv k,.convert s t _ => (P.underlying s).isSome && isInt P t k
  | .isnil,.binOp .eql t _ (.const (.slice none 0 0)) _ => isSl P t
  | .take,.load t _ => kindOf P t == some none
  | .slice es lo hi,.slice t _ lo' hi' mx => (elemOfS P t).map (·.2.size) == some es && lo == lo'.isSome && hi == hi'.isSome && mx.isNone
  | .sstr lo hi,.slice t _ lo' hi' mx => isStr P t && lo == lo'.isSome && hi == hi'.isSome && mx.isNone
  | .bstr,.convert s t _ => isBytes P s && isStr P t
  | .fsl es,.slice t _ lo' hi' mx => (elemOfS P t).map (·.2.size) == some es && lo'.isSome && hi'.isNone && mx.isNone
  | .mkmap s,.makeMap t r => (mapOf P t).map (·.1) == some s && r.isNone
  | .lookup s z ok,.lookup t _ _ ok' => ok == ok' && (match mapOf P t with | some (s',e) => s' == s && zeroE P e z | none => false)
  | .mapset s,.mapUpdate t _ _ _ => (mapOf P t).map (·.1) == some s
  | .mapset s,.insert t _ _ _ => (mapOf P t).map (·.1) == some s
  | .meq neg,.binOp o t _ _ _ => isPair P t && o == (if neg then .neq else .eql)
  | k,.call c => (match c.callee with | .builtin b => okBuiltin P k b c.argTypes.toList | _ => false)
  | _,_ => false
section
variable {P : Program} {c : Ctx} {S : Sto} {w : World} {fp : Id → List Nat}
theorem yield_now {x : PV} {v : Value} (ok : StOK c S (hp w) fp) (r : RVal c S (hp w) x v) : Yield P c S w (pure (.value v)) S x :=
  ⟨_,v,w,c,fp,rfl,.inl rfl,ok,Adv.refl _ _,r,Grew.refl _⟩
theorem yield_congr {m m' : Sem Next} {S' x} (h : m.run P w = m'.run P w) (y : Yield P c S w m' S' x) : Yield P c S w m S' x := by
  obtain ⟨nx,v,w',c',fp',h1,h2⟩ := y
  exact ⟨nx,v,w',c',fp',h.trans h1,h2⟩
theorem yield_pick {ρ : Operand → Value} {co a b : Operand} {t : Bool} {x y : PV} (ok : StOK c S (hp w) fp) (h1 : RVal c S (hp w) (.b t) (ρ co)) (h2 : RVal c S (hp w) x (ρ a)) (h3 : RVal c S (hp w) y (ρ b)) :
    Yield P c S w (do pure (.value (if ← asBool (ρ co) then ρ a else ρ b))) S (if t then x else y) := by
  have := sc_eq h1
  cases t
  · exact ⟨_,ρ b,w,c,fp,by simp [this,asBool],.inl rfl,ok,Adv.refl _ _,h3,Grew.refl _⟩
  · exact ⟨_,ρ a,w,c,fp,by simp [this,asBool],.inl rfl,ok,Adv.refl _ _,h2,Grew.refl _⟩
theorem clo_yield {f : Nat} {ps : List PV} {vs : List Value} (ok : StOK c S (hp w) fp) (h : ps.all (fun x => sure x && cellP x) = true) (r : RVals c S (hp w) ps vs) :
    Yield P c S w (do pure (.value (← Instr.makeFunc (.func f) #[] vs.toArray))) S (.clo f ps) := by
  have h' : ∀ x ∈ ps,sure x = true ∧ cellP x = true := fun x hx => by have := List.all_eq_true.1 h x hx; simpa using this
  obtain ⟨h1,h2⟩ := RVals_cells h' r
  exact yield_pure ok (by simp [Instr.makeFunc]) ⟨rfl,vs,rfl,h2,h1⟩
theorem istr_yield (ok : StOK c S (hp w) fp) {t : TypeId} {b : ByteArray} {i : Int} {v u : Value} (ht : isStr P t = true) (h : 0 ≤ i ∧ i.toNat < b.size) (hx : RVal c S (hp w) (.s b) v) (hu : RVal c S (hp w) (.i i) u) :
    Yield P c S w (do pure (.value (← Instr.index t v u))) S (.sc (.int .u8 (b[i.toNat]'h.2).toNat)) := by
  rw [sc_eq hx,sc_eq hu]
  unfold isStr at ht
  split at ht
  · rename_i hty
    refine yield_pure ok (v := .int .u8 (b[i.toNat]'h.2).toNat) ?_ (sc_of rfl)
    have h2 : b[i.toNat]? = some (b[i.toNat]'h.2) := getElem?_pos b i.toNat h.2
    simp [Instr.index,asIntOf,run_underlying hty,h.1,h2]
  · cases ht
theorem max_yield (ok : StOK c S (hp w) fp) {a b : Int} {v u : Value} {ts : Array TypeId} {t : TypeId} (hx : RVal c S (hp w) (.i a) v) (hy : RVal c S (hp w) (.i b) u) :
    Yield P c S w (do pure (.value (← Builtin.max_ ts t #[v,u]))) S (.i (if a < b then b else a)) := by
  rw [sc_eq hx,sc_eq hy]
  exact yield_pure ok (by simp [Builtin.max_,Builtin.max2]) (sc_of rfl)
theorem nck_value {v : Value} {ρ : Operand → Value} {x : Operand} {o : Oper} (ho : o.op = .nilCheck x) (hv : ρ x = v) (h : (∃ a,v = .pointer (some a)) ∨ ∃ f a b,v = .func (.func f) a b) : (execOp ρ o).run P w = .ok (.value v) w := by
  rcases h with ⟨a,rfl⟩ | ⟨f,a,b,rfl⟩ <;> simp [execOp,ho,hv]
theorem run_equalIn_slnil (d : Nat) {t e : TypeId} (h : P.underlying t = some (.slice e)) {a : Addr} {m q : Nat} : (Op.equalIn (d + 1) t (.slice (some a) m q) (.slice none 0 0)).run P w = .ok false w := by
  simp [Op.equalIn,run_underlying h]
theorem isnil_yield (ok : StOK c S (hp w) fp) {t : TypeId} (ht : isSl P t = true) {u : Bool} {k : Nat} {x : PV} {xs : List PV} {v : Value} {ox oy : Operand} (hx : RVal c S (hp w) (.sl u k (x :: xs)) v) :
    Yield P c S w (do pure (.value (← (do eqGuard .eql t ox oy v (.slice none 0 0); binOp .eql t v (.slice none 0 0))))) S (.b false) := by
  obtain ⟨a,m,q,rfl⟩ : ∃ a m q,v = .slice (some a) m q := by
    cases u with
    | false =>
      obtain ⟨_,_,_,A,cp,e,r⟩ := hx
      rcases r with r | ⟨g,off,cur,et,fr,ws,h1,_⟩
      · cases r
      · rw [h1] at e; exact ⟨_,_,_,(List.cons.inj e).1⟩
    | true =>
      obtain ⟨_,_,A,cp,e,r⟩ := hx
      rcases r with r | ⟨g,cur,et,ws,fq,h1,_⟩
      · cases r.1
      · rw [h1] at e; exact ⟨_,_,_,(List.cons.inj e).1⟩
  refine yield_pure ok ?_ (sc_of rfl)
  unfold isSl at ht
  split at ht
  · rename_i el hu
    have : (Op.equal t (.slice (some a) m q) (.slice none 0 0)).run P w = .ok false w := run_equalIn_slnil 9999 hu
    simp [eqGuard,binOp,this]
  · cases ht
theorem run_equalIn_slnil0 (d : Nat) {t e : TypeId} (h : P.underlying t = some (.slice e)) {A : Option Addr} {m q : Nat} : (Op.equalIn (d + 1) t (.slice A m q) (.slice none 0 0)).run P w = .ok A.isNone w := by
  cases A <;> simp [Op.equalIn,run_underlying h]
theorem isnilv_yield (ok : StOK c S (hp w) fp) {t : TypeId} (ht : isSl P t = true) {A : Option Addr} {m q : Nat} {v : Value} {ox oy : Operand} (hx : RVal c S (hp w) (.sc (.slice A m q)) v) :
    Yield P c S w (do pure (.value (← (do eqGuard .eql t ox oy v (.slice none 0 0); binOp .eql t v (.slice none 0 0))))) S (.b A.isNone) := by
  obtain ⟨_,hv,_⟩ := hx
  have hv : v = .slice A m q := by simpa using hv
  subst hv
  refine yield_pure ok ?_ (sc_of rfl)
  unfold isSl at ht
  split at ht
  · rename_i el hu
    have : (Op.equal t (.slice A m q) (.slice none 0 0)).run P w = .ok A.isNone w := run_equalIn_slnil0 9999 hu
    simp [eqGuard,binOp,this]
  · cases ht
theorem noneE {α : Type} {x : α} {C : Prop} (h : none = some x) : C := by cases h
set_option maxHeartbeats 1000000 in
theorem op_sound {o : Oper} {ρ : Operand → Value} (hρ : ∀ v,ρ (.const v) = v) {k : K} {ps : List PV} {n d : Nat} {y : PV} {ws : List (Id × OB)} (hlv : ∀ i ob,S i = some ob → i.1 ≤ n) (ok : StOK c S (hp w) fp) (hk : okOp P k o.op = true)
    (r : RVals c S (hp w) ps ((opArgs o.op).map ρ)) (e : core1 n d S k ps = some (y,ws)) : Yield P c S w (execOp ρ o) (upds S ws) y := by
  obtain ⟨dst,op,type,pos,after,guard⟩ := o
  simp only at hk r ⊢
  unfold okOp at hk
  split at hk
  · -- move
    obtain ⟨x,rfl,h1⟩ := RVals_inv1 r
    simp only [core1,Option.some.injEq,Prod.mk.injEq] at e
    obtain ⟨rfl,rfl⟩ := e
    exact yield_now ok h1
  · -- assign
    obtain ⟨x,rfl,h1⟩ := RVals_inv1 r
    simp only [core1,Option.some.injEq,Prod.mk.injEq] at e
    obtain ⟨rfl,rfl⟩ := e
    exact yield_now ok h1
  · -- pick
    obtain ⟨x,y',z,rfl,h1,h2,h3⟩ := RVals_inv3 r
    cases x <;> try (exact noneE e)
    rename_i v
    cases v <;> try (exact noneE e)
    simp only [core1,Option.some.injEq,Prod.mk.injEq] at e
    obtain ⟨rfl,rfl⟩ := e
    exact yield_pick ok h1 h2 h3
  · -- nilCheck
    rename_i x0
    obtain ⟨x,rfl,h1⟩ := RVals_inv1 r
    cases x <;> try (exact noneE e)
    · rename_i id m i j
      simp only [core1] at e
      split at e
      · rename_i hl
        simp only [Option.some.injEq,Prod.mk.injEq] at e
        obtain ⟨rfl,rfl⟩ := e
        obtain ⟨o,hv,_⟩ := ref_cases (one_of_ref h1).2 hl
        exact ⟨_,_,w,c,fp,nck_value (o := ⟨dst,.nilCheck x0,type,pos,after,guard⟩) rfl rfl (.inl ⟨_,hv⟩),.inl rfl,ok,Adv.refl _ _,h1,Grew.refl _⟩
      · cases e
    · simp only [core1,Option.some.injEq,Prod.mk.injEq] at e
      obtain ⟨rfl,rfl⟩ := e
      obtain ⟨_,g,o,cur,et,fr,ws,hv,_⟩ := (id h1 : R _ _ _ _ _ _)
      have hv := (List.cons.inj hv).1
      exact ⟨_,_,w,c,fp,nck_value (o := ⟨dst,.nilCheck x0,type,pos,after,guard⟩) rfl rfl (.inl ⟨_,hv⟩),.inl rfl,ok,Adv.refl _ _,h1,Grew.refl _⟩
    · simp only [core1,Option.some.injEq,Prod.mk.injEq] at e
      obtain ⟨rfl,rfl⟩ := e
      obtain ⟨_,ws,hv,_⟩ := (id h1 : R _ _ _ _ _ _)
      have hv := (List.cons.inj hv).1
      exact ⟨_,_,w,c,fp,nck_value (o := ⟨dst,.nilCheck x0,type,pos,after,guard⟩) rfl rfl (.inr ⟨_,_,_,hv⟩),.inl rfl,ok,Adv.refl _ _,h1,Grew.refl _⟩
  · -- alloc
    rw [RVals_inv0 r] at e
    simp only [core1] at e
    split at e
    · rename_i hn
      simp only [Option.some.injEq,Prod.mk.injEq] at e
      obtain ⟨rfl,rfl⟩ := e
      exact alloc_yield ok (by simpa using hn) hk
    · cases e
  · -- box
    obtain ⟨x,rfl,h1⟩ := RVals_inv1 r
    simp only [core1] at e
    split at e
    · rename_i hn
      simp only [Option.some.injEq,Prod.mk.injEq] at e
      obtain ⟨rfl,rfl⟩ := e
      simp only [Bool.and_eq_true] at hn
      obtain ⟨hu,hc⟩ := sure_spec hn.2
      exact box_yield (id := (n,d)) ok hlv (by simpa using hn.1) hc hu h1
    · cases e
  · -- build
    simp only [core1] at e
    split at e
    · rename_i hb
      simp only [Option.some.injEq,Prod.mk.injEq] at e
      obtain ⟨rfl,rfl⟩ := e
      exact build_yield ok hk r hb
    · cases e
  · -- buildSlice
    rename_i kk mv t n' prs
    simp only [Bool.and_eq_true,decide_eq_true_eq] at hk
    obtain ⟨hn,hk⟩ := hk
    unfold okBslice at hk
    split at hk
    · rename_i el i hel
      simp only [Bool.and_eq_true,decide_eq_true_eq] at hk
      obtain ⟨⟨⟨⟨h1,h2⟩,h3⟩,h4⟩,h5⟩ := hk
      have h5 := eq_of_beq h5
      obtain ⟨z,hz⟩ := Option.isSome_iff_exists.1 h3
      have hvl : ((prs.toList.map (·.2)).map ρ).length = n' := by simp [hn]
      have hpz : (prs.map fun x => (x.1,ρ x.2)) = (((((prs.toList.map (·.2)).map ρ).zipIdx 0).map fun x => (x.2,x.1)).toArray) := by
        apply Array.ext'
        simp only [Array.toList_map]
        have hz1 : ∀ (l : List Value) (q : Nat),(l.zipIdx q).map (fun x => (x.2,x.1)) = (List.range' q l.length).zip l := by
          intro l
          induction l with
          | nil => intro q; rfl
          | cons a l ih => intro q; simp [List.zipIdx_cons,List.range'_succ,ih]
        rw [hz1,hvl,← h5]
        simp only [List.map_map]
        rw [List.zip_map']
        simp [Function.comp_def]
      have hexec : execOp ρ ⟨dst,.buildSlice t n' prs,type,pos,after,guard⟩ = (do pure (.value (← Instr.buildSlice t ((prs.toList.map (·.2)).map ρ).length (((((prs.toList.map (·.2)).map ρ).zipIdx 0).map fun x => (x.2,x.1)).toArray)))) := by
        rw [hvl,← hpz]; rfl
      rw [hexec]
      simp only [core1] at e
      cases ps with
      | nil =>
        simp only [Option.some.injEq,Prod.mk.injEq] at e
        obtain ⟨rfl,rfl⟩ := e
        simp only [opArgs,RVals] at r
        simp only [r]
        exact bslice0_yield ok hel
      | cons p qs =>
        simp only at e
        split at e
        · rename_i ys ws' hpk
          split at e
          · rename_i hc
            simp only [Option.some.injEq,Prod.mk.injEq] at e
            obtain ⟨rfl,rfl⟩ := e
            simp only [Bool.and_eq_true,List.all_eq_true,decide_eq_true_eq] at hc
            exact bslice_yield ok hel h1 h2 hz r hpk hc.1.1 (by simpa using hc.1.2) hc.2 (by rw [hvl]; exact h4) (by simp)
          · cases e
        · cases e
    · cases hk
  · -- eslice
    rename_i kk t n' prs
    simp only [Bool.and_eq_true,decide_eq_true_eq] at hk
    obtain ⟨⟨rfl,hps⟩,hel⟩ := hk
    have hprs : prs = #[] := Array.eq_empty_of_size_eq_zero hps
    subst hprs
    obtain ⟨⟨e',i'⟩,hel⟩ := Option.isSome_iff_exists.1 hel
    have r0 : ps = [] := RVals_inv0 (by simpa [opArgs] using r)
    subst r0
    simp only [core1] at e
    split at e
    · rename_i hn
      simp only [Option.some.injEq,Prod.mk.injEq] at e
      obtain ⟨rfl,rfl⟩ := e
      have hexec : execOp ρ ⟨dst,.buildSlice t 0 #[],type,pos,after,guard⟩ = (do pure (.value (← Instr.buildSlice t 0 ((#[] : Array (Nat × Operand)).map fun x => (x.1,ρ x.2))))) := rfl
      rw [hexec,Array.map_empty]
      exact eslice_yield ok hel (by simpa using hn)
    · cases e
  · -- load
    rename_i kk tk t a
    obtain ⟨x,rfl,h1⟩ := RVals_inv1 r
    have hk := eq_of_beq hk
    cases x <;> try (exact noneE e)
    · rename_i id m i j
      simp only [core1] at e
      split at e
      · rename_i ob hob
        split at e
        · rename_i cs hcs
          split at e
          · rename_i v hv
            split at e
            · rename_i hp
              simp only [Option.some.injEq,Prod.mk.injEq] at e
              obtain ⟨rfl,rfl⟩ := e
              exact load_yield ok hk hob hcs hv hp h1
            · cases e
          · cases e
        · cases e
      · cases e
    · simp only [core1] at e
      split at e
      · rename_i v hv
        simp only [Option.some.injEq,Prod.mk.injEq] at e
        obtain ⟨rfl,rfl⟩ := e
        exact loadI_yield ok hk hv h1
      · cases e
  · -- store
    obtain ⟨x,y',rfl,h1,h2⟩ := RVals_inv2 r
    obtain ⟨h3,rfl⟩ := store_yield ok (eq_of_beq hk) h1 h2 e
    exact h3.toY
  · -- bin
    obtain ⟨x,y',rfl,h1,h2⟩ := RVals_inv2 r
    simp only [core1] at e
    split at e
    · rename_i v hv
      simp only [Option.some.injEq,Prod.mk.injEq] at e
      obtain ⟨rfl,rfl⟩ := e
      exact bin_yield ok hk h1 h2 hv
    · cases e
  · -- beq
    obtain ⟨x,y',rfl,h1,h2⟩ := RVals_inv2 r
    cases x <;> try (exact noneE e)
    rename_i v
    cases v <;> try (exact noneE e)
    cases y' <;> try (exact noneE e)
    rename_i v
    cases v <;> try (exact noneE e)
    simp only [core1,Option.some.injEq,Prod.mk.injEq] at e
    obtain ⟨rfl,rfl⟩ := e
    exact beq_yield ok hk h1 h2
  · -- bne
    obtain ⟨x,y',rfl,h1,h2⟩ := RVals_inv2 r
    cases x <;> try (exact noneE e)
    rename_i v
    cases v <;> try (exact noneE e)
    cases y' <;> try (exact noneE e)
    rename_i v
    cases v <;> try (exact noneE e)
    simp only [core1,Option.some.injEq,Prod.mk.injEq] at e
    obtain ⟨rfl,rfl⟩ := e
    exact bne_yield ok hk h1 h2
  · -- not
    obtain ⟨x,rfl,h1⟩ := RVals_inv1 r
    cases x <;> try (exact noneE e)
    rename_i v
    cases v <;> try (exact noneE e)
    simp only [core1,Option.some.injEq,Prod.mk.injEq] at e
    obtain ⟨rfl,rfl⟩ := e
    exact not_yield ok h1
  · -- neg
    obtain ⟨x,rfl,h1⟩ := RVals_inv1 r
    cases x <;> try (exact noneE e)
    rename_i v
    cases v <;> try (exact noneE e)
    simp only [core1,Option.some.injEq,Prod.mk.injEq] at e
    obtain ⟨rfl,rfl⟩ := e
    exact neg_yield ok h1
  · -- faddr
    obtain ⟨⟨o',ft⟩,h0,h0'⟩ := Option.map_eq_some_iff.1 (eq_of_beq hk)
    simp only at h0'
    subst h0'
    obtain ⟨x,rfl,h1⟩ := RVals_inv1 r
    cases x <;> try (exact noneE e)
    · simp only [core1] at e
      split at e
      · rename_i hl
        simp only [Option.some.injEq,Prod.mk.injEq] at e
        obtain ⟨rfl,rfl⟩ := e
        exact faddr_yield ok h0 hl h1
      · cases e
    · simp only [core1,Option.some.injEq,Prod.mk.injEq] at e
      obtain ⟨rfl,rfl⟩ := e
      exact faddrI_yield ok h0 h1
  · -- iaddr
    obtain ⟨⟨el,ti⟩,h0,h0'⟩ := Option.map_eq_some_iff.1 (eq_of_beq hk)
    simp only at h0'
    obtain ⟨x,y',rfl,h1,h2⟩ := RVals_inv2 r
    cases y' <;> try (cases x <;> first | (exact noneE e) | (rename_i u _ _; cases u <;> (exact noneE e)); done)
    rename_i v
    cases v <;> try (cases x <;> first | (exact noneE e) | (rename_i u _ _; cases u <;> (exact noneE e)); done)
    rename_i kd q
    cases kd <;> try (cases x <;> first | (exact noneE e) | (rename_i u _ _; cases u <;> (exact noneE e)); done)
    cases x <;> try (exact noneE e)
    · rename_i u k' xs
      cases u <;> try (exact noneE e)
      simp only [core1] at e
      split at e
      · rename_i hc
        obtain ⟨rfl,hq⟩ := hc
        split at e
        · rename_i el' hel
          simp only [Option.some.injEq,Prod.mk.injEq] at e
          obtain ⟨rfl,rfl⟩ := e
          exact iaddrS_yield ok h0 h0' hq hel h1 h2
        · cases e
      · cases e
    · rename_i id m
      simp only [core1] at e
      split at e
      · rename_i k' xs hs
        split at e
        · rename_i hc
          obtain ⟨rfl,rfl,hq⟩ := hc
          simp only [Option.some.injEq,Prod.mk.injEq] at e
          obtain ⟨rfl,rfl⟩ := e
          exact iaddrO_yield ok h0 h0' hs hq h1 h2
        · cases e
      · rename_i k' xs hs
        split at e
        · rename_i hc
          obtain ⟨rfl,rfl,hq⟩ := hc
          split at e
          · rename_i el' hel
            simp only [Option.some.injEq,Prod.mk.injEq] at e
            obtain ⟨rfl,rfl⟩ := e
            exact iaddrF_yield ok h0 h0' hs hq hel h1 h2
          · cases e
        · cases e
      · cases e
    · rename_i id m i
      simp only [core1] at e
      split at e
      · rename_i k' xs hs
        split at e
        · rename_i hc
          obtain ⟨rfl,rfl,hq⟩ := hc
          simp only [Option.some.injEq,Prod.mk.injEq] at e
          obtain ⟨rfl,rfl⟩ := e
          exact iaddrSub_yield ok h0 h0' hs hq h1 h2
        · cases e
      · cases e
  · -- iarr
    obtain ⟨⟨n',el,es'⟩,h0,h0'⟩ := Option.map_eq_some_iff.1 (eq_of_beq hk)
    simp only [Prod.mk.injEq] at h0'
    obtain ⟨rfl,rfl⟩ := h0'
    obtain ⟨x,y',rfl,h1,h2⟩ := RVals_inv2 r
    cases y' <;> try (cases x <;> (exact noneE e); done)
    rename_i v
    cases v <;> try (cases x <;> (exact noneE e); done)
    rename_i kd q
    cases kd <;> try (cases x <;> (exact noneE e); done)
    cases x <;> try (exact noneE e)
    · simp only [core1] at e
      split at e
      · rename_i hc
        simp only [Bool.and_eq_true] at hc
        simp only [Option.some.injEq,Prod.mk.injEq] at e
        obtain ⟨rfl,rfl⟩ := e
        exact iarr_yield ok h0 hc.1 hc.2 h1 h2
      · cases e
    · simp only [core1] at e
      split at e
      · rename_i hc
        simp only [Option.some.injEq,Prod.mk.injEq] at e
        obtain ⟨rfl,rfl⟩ := e
        exact iarrI_yield ok h0 hc h1 h2
      · cases e
  · -- idx
    split at hk
    · rename_i m el es' h0
      simp only [Bool.and_eq_true,decide_eq_true_eq] at hk
      obtain ⟨⟨rfl,rfl⟩,hk⟩ := hk
      obtain ⟨x,y',rfl,h1,h2⟩ := RVals_inv2 r
      cases y' <;> try (cases x <;> (exact noneE e); done)
      rename_i v
      cases v <;> try (cases x <;> (exact noneE e); done)
      rename_i kd q
      cases kd <;> try (cases x <;> (exact noneE e); done)
      cases x <;> try (exact noneE e)
      simp only [core1] at e
      split at e
      · rename_i hc
        split at e
        · rename_i v' hv
          simp only [Option.some.injEq,Prod.mk.injEq] at e
          obtain ⟨rfl,rfl⟩ := e
          exact idx_yield ok h0 (eq_of_beq hk) hc hv h1 h2
        · cases e
      · cases e
    · cases hk
  · -- istr
    obtain ⟨x,y',rfl,h1,h2⟩ := RVals_inv2 r
    cases x <;> try (exact noneE e)
    rename_i v
    cases v <;> try (exact noneE e)
    cases y' <;> try (exact noneE e)
    rename_i v
    cases v <;> try (exact noneE e)
    rename_i kd q
    cases kd <;> try (exact noneE e)
    simp only [core1] at e
    split at e
    · rename_i hc
      simp only [Option.some.injEq,Prod.mk.injEq] at e
      obtain ⟨rfl,rfl⟩ := e
      exact istr_yield ok hk hc h1 h2
    · cases e
  · -- fld
    split at hk
    · rename_i o' ft h0
      simp only [Bool.and_eq_true,decide_eq_true_eq] at hk
      obtain ⟨rfl,hk⟩ := hk
      obtain ⟨x,rfl,h1⟩ := RVals_inv1 r
      cases x <;> try (exact noneE e)
      simp only [core1] at e
      split at e
      · rename_i v' hv
        simp only [Option.some.injEq,Prod.mk.injEq] at e
        obtain ⟨rfl,rfl⟩ := e
        exact fld_yield ok h0 (eq_of_beq hk) hv h1
      · cases e
    · cases hk
  · -- ext
    obtain rfl := eq_of_beq hk
    obtain ⟨x,rfl,h1⟩ := RVals_inv1 r
    cases x <;> try (exact noneE e)
    simp only [core1] at e
    split at e
    · cases e
    · rename_i v' hnt hv
      simp only [Option.some.injEq,Prod.mk.injEq] at e
      obtain ⟨rfl,rfl⟩ := e
      exact ext_yield ok hv (fun qs hq => hnt qs (by first | exact hq | rw [hq])) h1
    · cases e
  · -- mkslice
    unfold okMk at hk
    split at hk
    · rename_i el i h0
      split at hk
      · rename_i zv hz
        simp only [Bool.and_eq_true,decide_eq_true_eq] at hk
        obtain ⟨⟨⟨⟨⟨⟨k1,k2⟩,k3⟩,k4⟩,k5⟩,k6⟩,k7⟩ := hk
        obtain ⟨x,y',rfl,h1,h2⟩ := RVals_inv2 r
        cases x <;> try (exact noneE e)
        rename_i v
        cases v <;> try (exact noneE e)
        rename_i kd q
        cases kd <;> try (exact noneE e)
        cases y' <;> try (exact noneE e)
        rename_i v
        cases v <;> try (exact noneE e)
        rename_i kd q
        cases kd <;> try (exact noneE e)
        simp only [core1] at e
        split at e
        · rename_i hc
          obtain ⟨rfl,c2,c3,c4⟩ := hc
          simp only [Option.some.injEq,Prod.mk.injEq] at e
          obtain ⟨rfl,rfl⟩ := e
          exact mkslice_yield ok h0 k1 k2 k3 hz k4 k5 k6 k7 (by simpa using c4) c2 c3 h1 h2
        · cases e
      · cases hk
    · cases hk
  · -- mkfunc
    rename_i f g first cs
    simp only [Bool.and_eq_true] at hk
    obtain ⟨hk1,hk2⟩ := hk
    obtain rfl := eq_of_beq hk1
    have hk2 := eq_of_beq hk2
    have hf : first = #[] := Array.eq_empty_of_size_eq_zero hk2
    subst hf
    simp only [core1] at e
    split at e
    · rename_i hc
      simp only [Option.some.injEq,Prod.mk.injEq] at e
      obtain ⟨rfl,rfl⟩ := e
      have := clo_yield (P := P) (f := f) ok hc r
      have hcs : ((opArgs (.makeFunc (.func f) #[] cs)).map ρ).toArray = cs.map ρ := by apply Array.ext'; simp [opArgs]
      rw [hcs] at this
      refine yield_congr ?_ this
      simp [execOp]
    · cases e
  · -- conv
    simp only [Bool.and_eq_true] at hk
    obtain ⟨x,rfl,h1⟩ := RVals_inv1 r
    cases x <;> try (exact noneE e)
    rename_i v
    cases v <;> try (exact noneE e)
    simp only [core1,Option.some.injEq,Prod.mk.injEq] at e
    obtain ⟨rfl,rfl⟩ := e
    have h2 := hk.2
    unfold isInt at h2
    split at h2
    · rename_i k' hu
      simp only [decide_eq_true_eq] at h2
      subst h2
      exact conv_yield ok hk.1 hu h1
    · cases h2
  · -- isnil
    rename_i t x0 ty0
    have hl : ((opArgs (.binOp .eql t x0 (.const (.slice none 0 0)) ty0)).map ρ) = [ρ x0,.slice none 0 0] := by simp [opArgs,hρ]
    obtain ⟨x,y',rfl,h1,h2⟩ := RVals_inv2 r
    cases x <;> try (exact noneE e)
    · rename_i v
      cases v <;> try (exact noneE e)
      simp only [core1,Option.some.injEq,Prod.mk.injEq] at e
      obtain ⟨rfl,rfl⟩ := e
      refine yield_congr ?_ (isnilv_yield (ox := x0) (oy := .const (.slice none 0 0)) ok hk h1)
      simp [execOp,hρ]
    · rename_i u kk xs
      cases xs <;> try (exact noneE e)
      simp only [core1,Option.some.injEq,Prod.mk.injEq] at e
      obtain ⟨rfl,rfl⟩ := e
      refine yield_congr ?_ (isnil_yield (ox := x0) (oy := .const (.slice none 0 0)) ok hk h1)
      simp [execOp,hρ]
  · -- take
    obtain ⟨x,rfl,h1⟩ := RVals_inv1 r
    cases x <;> try (exact noneE e)
    simp only [core1] at e
    split at e
    · rename_i k' xs hs
      split at e
      · rename_i hc
        split at e
        · rename_i el hel
          split at e
          · rename_i k2 ys hcj
            simp only [Option.some.injEq,Prod.mk.injEq] at e
            obtain ⟨rfl,rfl⟩ := e
            exact take_yield ok (eq_of_beq hk) hs hc.1 hel hcj (by simpa using hc.2) h1
          · rename_i hcj
            simp only [Option.some.injEq,Prod.mk.injEq] at e
            obtain ⟨rfl,rfl⟩ := e
            exact take_nil_yield ok (eq_of_beq hk) hs hc.1 hel hcj h1
          · cases e
        · cases e
      · cases e
    · cases e
  · -- slice
    rename_i es lo hi t x0 lo' hi' mx
    simp only [Bool.and_eq_true] at hk
    obtain ⟨⟨⟨hk1,hk2⟩,hk3⟩,hk4⟩ := hk
    obtain ⟨⟨el,ti⟩,h0,h0'⟩ := Option.map_eq_some_iff.1 (eq_of_beq hk1)
    simp only at h0'
    obtain rfl := eq_of_beq hk2
    obtain rfl := eq_of_beq hk3
    have hmx : mx = none := by cases mx with | none => rfl | some _ => cases hk4
    subst hmx
    have hb : bnds lo'.isSome hi'.isSome ((lo'.toList ++ hi'.toList).map ρ) = (lo'.map ρ,hi'.map ρ) := by cases lo' <;> cases hi' <;> rfl
    have hr : RVals c S (hp w) ps (ρ x0 :: (lo'.toList ++ hi'.toList).map ρ) := r
    obtain ⟨x,bs,rfl,h1,h2⟩ := RVals_cons_inv hr
    have hex : execOp ρ ⟨dst,.slice t x0 lo' hi' none,type,pos,after,guard⟩ = (do pure (.value (← Instr.sliceAt t (ρ x0) (bnds lo'.isSome hi'.isSome ((lo'.toList ++ hi'.toList).map ρ)).1 (bnds lo'.isSome hi'.isSome ((lo'.toList ++ hi'.toList).map ρ)).2 none))) := by rw [hb]; rfl
    rw [hex]
    cases x <;> try (exact noneE e)
    · rename_i u kk xs
      cases u <;> try (exact noneE e)
      simp only [core1] at e
      split at e
      · rename_i hkk
        subst hkk
        split at e
        · rename_i l h hsl
          simp only [Option.some.injEq,Prod.mk.injEq] at e
          obtain ⟨rfl,rfl⟩ := e
          exact slice_yield ok h0 h0' hsl h1 h2
        · cases e
      · cases e
    · rename_i id m
      simp only [core1] at e
      split at e
      · rename_i kk xs hs
        split at e
        · rename_i hc
          obtain ⟨rfl,rfl⟩ := hc
          split at e
          · rename_i l h hsl
            split at e
            · rename_i hhi
              simp only [Option.some.injEq,Prod.mk.injEq] at e
              obtain ⟨rfl,rfl⟩ := e
              rw [hhi] at hsl ⊢
              exact sub_yield ok h0 h0' hs hsl h1 h2
            · split at e
              · rename_i hc2
                simp only [Option.some.injEq,Prod.mk.injEq] at e
                obtain ⟨rfl,rfl⟩ := e
                rw [hc2.1] at hsl ⊢
                exact trim_yield ok h0 h0' hs hsl (by simpa using hc2.2) h1 h2
              · cases e
          · cases e
        · cases e
      · cases e
  · -- sstr
    rename_i lo hi t x0 lo' hi' mx
    simp only [Bool.and_eq_true] at hk
    obtain ⟨⟨⟨hk1,hk2⟩,hk3⟩,hk4⟩ := hk
    obtain rfl := eq_of_beq hk2
    obtain rfl := eq_of_beq hk3
    have hmx : mx = none := by cases mx with | none => rfl | some _ => cases hk4
    subst hmx
    have hst : P.underlying t = some .string := by
      unfold isStr at hk1
      split at hk1
      · assumption
      · cases hk1
    have hb : bnds lo'.isSome hi'.isSome ((lo'.toList ++ hi'.toList).map ρ) = (lo'.map ρ,hi'.map ρ) := by cases lo' <;> cases hi' <;> rfl
    have hr : RVals c S (hp w) ps (ρ x0 :: (lo'.toList ++ hi'.toList).map ρ) := r
    obtain ⟨x,bs,rfl,h1,h2⟩ := RVals_cons_inv hr
    have hex : execOp ρ ⟨dst,.slice t x0 lo' hi' none,type,pos,after,guard⟩ = (do pure (.value (← Instr.sliceAt t (ρ x0) (bnds lo'.isSome hi'.isSome ((lo'.toList ++ hi'.toList).map ρ)).1 (bnds lo'.isSome hi'.isSome ((lo'.toList ++ hi'.toList).map ρ)).2 none))) := by rw [hb]; rfl
    rw [hex]
    cases x <;> try (exact noneE e)
    rename_i vv
    cases vv <;> try (exact noneE e)
    simp only [core1] at e
    split at e
    · rename_i l h hsl
      simp only [Option.some.injEq,Prod.mk.injEq] at e
      obtain ⟨rfl,rfl⟩ := e
      exact sstr_yield ok hst hsl h1 h2
    · cases e
  · -- bstr
    simp only [Bool.and_eq_true] at hk
    obtain ⟨hk1,hk2⟩ := hk
    unfold isBytes at hk1
    split at hk1
    · rename_i el h0
      split at hk1
      · rename_i he
        obtain ⟨x,rfl,h1⟩ := RVals_inv1 r
        simp only [core1] at e
        split at e
        · rename_i ys ws' hsrc
          split at e
          · rename_i ns hu
            simp only [Option.some.injEq,Prod.mk.injEq] at e
            obtain ⟨rfl,rfl⟩ := e
            refine bstr_yield ok h0 he ?_ hsrc hu h1
            unfold isStr at hk2
            split at hk2
            · assumption
            · cases hk2
          · cases e
        · cases e
      · cases hk1
    · cases hk1
  · -- fsl
    rename_i es t x0 lo' hi' mx
    simp only [Bool.and_eq_true] at hk
    obtain ⟨⟨⟨hk1,hk2⟩,hk3⟩,hk4⟩ := hk
    obtain ⟨⟨el,ti⟩,h0,h0'⟩ := Option.map_eq_some_iff.1 (eq_of_beq hk1)
    simp only at h0'
    have hmx : mx = none := by cases mx with | none => rfl | some _ => cases hk4
    subst hmx
    have hhi : hi' = none := by cases hi' with | none => rfl | some _ => cases hk3
    subst hhi
    obtain ⟨lo,rfl⟩ := Option.isSome_iff_exists.1 hk2
    have hr : RVals c S (hp w) ps (ρ x0 :: [ρ lo]) := r
    obtain ⟨x,bs,rfl,h1,h2⟩ := RVals_cons_inv hr
    have hex : execOp ρ ⟨dst,.slice t x0 (some lo) none none,type,pos,after,guard⟩ = (do pure (.value (← Instr.sliceAt t (ρ x0) (bnds true false [ρ lo]).1 (bnds true false [ρ lo]).2 none))) := rfl
    rw [hex]
    cases x <;> try (exact noneE e)
    rename_i id m
    simp only [core1] at e
    split at e
    · rename_i kk xs hs
      split at e
      · rename_i hc
        obtain ⟨rfl,rfl⟩ := hc
        split at e
        · rename_i l h hsl
          simp only [Option.some.injEq,Prod.mk.injEq] at e
          obtain ⟨rfl,rfl⟩ := e
          exact fsl_yield ok h0 h0' hs hsl h1 h2
        · cases e
      · cases e
    · cases e
  · -- makeMap
    rename_i s t rs
    simp only [Bool.and_eq_true] at hk
    have hrs : rs = none := by cases rs with | none => rfl | some _ => cases hk.2
    subst hrs
    rw [RVals_inv0 r] at e
    simp only [core1] at e
    split at e
    · rename_i hn
      simp only [Option.some.injEq,Prod.mk.injEq] at e
      obtain ⟨rfl,rfl⟩ := e
      exact mkmap_yield ok (by simpa using hn)
    · cases e
  · -- lookup
    rename_i s z cm t x0 i0 cm'
    simp only [Bool.and_eq_true] at hk
    obtain ⟨hk1,hk2⟩ := hk
    obtain rfl := eq_of_beq hk1
    split at hk2
    · rename_i s' el hm
      simp only [Bool.and_eq_true] at hk2
      obtain rfl := eq_of_beq hk2.1
      obtain ⟨x,y',rfl,h1,h2⟩ := RVals_inv2 r
      cases y' <;> try (cases x <;> first | (exact noneE e) | (rename_i v; cases v <;> first | (exact noneE e) | (rename_i v; cases v <;> exact noneE e)); done)
      rename_i kv
      cases x <;> try (exact noneE e)
      · rename_i v
        cases v <;> try (exact noneE e)
        rename_i v
        cases v <;> try (exact noneE e)
        simp only [core1] at e
        split at e
        · rename_i k hkv
          split at e
          · rename_i hks
            simp only [Option.some.injEq,Prod.mk.injEq] at e
            obtain ⟨rfl,rfl⟩ := e
            exact lookupN_yield ok hm hk2.2 hks h1 (by rw [sc_eq h2]; exact keyOf_val hkv)
          · cases e
        · cases e
      · rename_i id
        simp only [core1] at e
        split at e
        · rename_i s2 es k hs hkv
          split at e
          · rename_i hc
            obtain ⟨rfl,hks⟩ := hc
            simp only [Option.some.injEq,Prod.mk.injEq] at e
            obtain ⟨rfl,rfl⟩ := e
            exact lookup_yield ok hm hk2.2 hs hks h1 (by rw [sc_eq h2]; exact keyOf_val hkv)
          · cases e
        · cases e
    · cases hk2
  · -- mapUpdate
    rename_i s t m0 k0 x0
    obtain ⟨⟨s',el⟩,hm,hm'⟩ := Option.map_eq_some_iff.1 (eq_of_beq hk)
    simp only at hm'
    subst hm'
    obtain ⟨x,y',z',rfl,h1,h2,h3⟩ := RVals_inv3 r
    cases x <;> try (exact noneE e)
    rename_i id
    cases y' <;> try (exact noneE e)
    rename_i kv
    simp only [core1] at e
    split at e
    · rename_i s2 es k hs hkv
      split at e
      · rename_i hc
        obtain ⟨rfl,hks⟩ := hc
        split at e
        · rename_i y2 ws2 hpk
          split at e
          · rename_i hnd
            simp only [Option.some.injEq,Prod.mk.injEq] at e
            obtain ⟨rfl,rfl⟩ := e
            exact (mapset_yield ok hm hs hks h1 (by rw [sc_eq h2]; exact keyOf_val hkv) h3 hpk hnd).toY
          · cases e
        · cases e
      · cases e
    · cases e
  · -- insert
    rename_i s t m0 k0 x0
    obtain ⟨⟨s',el⟩,hm,hm'⟩ := Option.map_eq_some_iff.1 (eq_of_beq hk)
    simp only at hm'
    subst hm'
    obtain ⟨x,y',z',rfl,h1,h2,h3⟩ := RVals_inv3 r
    cases x <;> try (exact noneE e)
    rename_i id
    cases y' <;> try (exact noneE e)
    rename_i kv
    simp only [core1] at e
    split at e
    · rename_i s2 es k hs hkv
      split at e
      · rename_i hc
        obtain ⟨rfl,hks⟩ := hc
        split at e
        · rename_i y2 ws2 hpk
          split at e
          · rename_i hnd
            simp only [Option.some.injEq,Prod.mk.injEq] at e
            obtain ⟨rfl,rfl⟩ := e
            exact (mapset_yield ok hm hs hks h1 (by rw [sc_eq h2]; exact keyOf_val hkv) h3 hpk hnd).toY
          · cases e
        · cases e
      · cases e
    · cases e
  · -- meq
    rename_i neg o t x0 y0 ty0
    simp only [Bool.and_eq_true] at hk
    obtain ⟨hk1,hk2⟩ := hk
    obtain rfl := eq_of_beq hk2
    obtain ⟨x,y',rfl,h1,h2⟩ := RVals_inv2 r
    cases x <;> try (exact noneE e)
    rename_i cs
    cases cs with
    | nil => exact noneE e
    | cons x cs => cases x <;> try (exact noneE e)
                   rename_i v; cases v <;> try (exact noneE e)
                   rename_i kd _; cases kd <;> try (exact noneE e)
                   cases cs with
                   | nil => exact noneE e
                   | cons x cs => cases x <;> try (exact noneE e)
                                  rename_i v; cases v <;> try (exact noneE e)
                                  rename_i kd _; cases kd <;> try (exact noneE e)
                                  cases cs with
                                  | cons _ _ => exact noneE e
                                  | nil =>
                                    cases y' <;> try (exact noneE e)
                                    rename_i cs
                                    cases cs with
                                    | nil => exact noneE e
                                    | cons x cs => cases x <;> try (exact noneE e)
                                                   rename_i v; cases v <;> try (exact noneE e)
                                                   rename_i kd _; cases kd <;> try (exact noneE e)
                                                   cases cs with
                                                   | nil => exact noneE e
                                                   | cons x cs => cases x <;> try (exact noneE e)
                                                                  rename_i v; cases v <;> try (exact noneE e)
                                                                  rename_i kd _; cases kd <;> try (exact noneE e)
                                                                  cases cs with
                                                                  | cons _ _ => exact noneE e
                                                                  | nil =>
                                                                    simp only [core1,Option.some.injEq,Prod.mk.injEq] at e
                                                                    obtain ⟨rfl,rfl⟩ := e
                                                                    exact meq_yield (ox := x0) (oy := y0) ok hk1 h1 h2
  · -- builtins
    rename_i cl
    obtain ⟨callee,args,argTypes⟩ := cl
    simp only at hk
    split at hk
    · rename_i b
      have har : args.map ρ = ((opArgs (.call ⟨.builtin b,args,argTypes⟩)).map ρ).toArray := by apply Array.ext'; simp [opArgs]
      have hts : argTypes = argTypes.toList.toArray := by simp
      obtain ⟨cst,hexec⟩ : ∃ cst : Array Bool,∀ w,(execOp ρ ⟨dst,.call ⟨.builtin b,args,argTypes⟩,type,pos,after,guard⟩).run P w = (builtin b argTypes type cst (args.map ρ)).run P w := ⟨_,fun w => by simp only [execOp,resolve,invoke,Sem.run_bind,Sem.run_pure,Result.andThen_ok]; exact rfl⟩
      generalize (opArgs (.call ⟨.builtin b,args,argTypes⟩)).map ρ = vs at r har
      generalize argTypes.toList = ts at hk hts
      refine yield_congr (hexec w) ?_
      rw [har,hts]
      unfold okBuiltin at hk
      split at hk
      · -- len
        cases ps with
        | nil => exact noneE e
        | cons x xs => cases xs with
          | cons _ _ => cases x <;> exact noneE e
          | nil =>
            obtain ⟨v,rfl,h1⟩ := RVals_one r
            cases x <;> try (exact noneE e)
            · simp only [core1,Option.some.injEq,Prod.mk.injEq] at e
              obtain ⟨rfl,rfl⟩ := e
              obtain ⟨_,A,hv⟩ := h1
              exact len_yield ok hk ⟨A,0,by simpa using hv⟩
            · rename_i u k' xs
              simp only [core1,Option.some.injEq,Prod.mk.injEq] at e
              obtain ⟨rfl,rfl⟩ := e
              refine len_yield ok hk ?_
              cases u
              · obtain ⟨_,_,_,A,cp,hv,_⟩ := (id h1 : R _ _ _ _ _ _)
                exact ⟨A,cp,by simpa using hv⟩
              · obtain ⟨_,_,A,cp,hv,_⟩ := (id h1 : R _ _ _ _ _ _)
                exact ⟨A,cp,by simpa using hv⟩
            · rename_i id m
              obtain ⟨_,v',hv,_,hv2⟩ := h1
              obtain rfl : v = v' := by simpa using hv
              simp only [core1] at e
              split at e
              · rename_i k' xs hs
                split at e
                · rename_i hm
                  simp only [Option.some.injEq,Prod.mk.injEq] at e
                  obtain ⟨rfl,rfl⟩ := e
                  simp only [OwnOK,hs] at hv2
                  exact len_yield ok hk ⟨_,_,hv2.2 hm⟩
                · cases e
              · rename_i k' xs hs
                split at e
                · rename_i hm
                  simp only [Option.some.injEq,Prod.mk.injEq] at e
                  obtain ⟨rfl,rfl⟩ := e
                  simp only [OwnOK,hs] at hv2
                  exact len_yield ok hk ⟨_,_,hv2.2 hm⟩
                · cases e
              · cases e
            · rename_i id m i
              simp only [core1] at e
              split at e
              · rename_i k' xs hs
                split at e
                · rename_i hm
                  subst hm
                  simp only [Option.some.injEq,Prod.mk.injEq] at e
                  obtain ⟨rfl,rfl⟩ := e
                  exact lenSub_yield ok hk hs h1
                · cases e
              · cases e
      · -- lens
        cases ps with
        | nil => exact noneE e
        | cons x xs => cases xs with
          | cons _ _ => cases x <;> try (exact noneE e)
                        rename_i v; cases v <;> exact noneE e
          | nil =>
            obtain ⟨v,rfl,h1⟩ := RVals_one r
            cases x <;> try (exact noneE e)
            rename_i u
            cases u <;> try (exact noneE e)
            simp only [core1,Option.some.injEq,Prod.mk.injEq] at e
            obtain ⟨rfl,rfl⟩ := e
            exact lens_yield ok hk h1
      · -- append
        simp only [Bool.and_eq_true] at hk
        obtain ⟨hk1,hk2⟩ := hk
        obtain rfl := eq_of_beq hk1
        cases ps with
        | nil => exact noneE e
        | cons x xs => cases xs with
          | nil => exact noneE e
          | cons y' ys => cases ys with
            | cons _ _ => exact noneE e
            | nil =>
              obtain ⟨v,u,rfl,h1,h2⟩ := RVals_two r
              exact append_yield ok hk2 h1 h2 e
      · -- min
        cases ps with
        | nil => exact noneE e
        | cons x xs => cases xs with
          | nil => cases x <;> try (exact noneE e)
                   rename_i v; cases v <;> try (exact noneE e)
                   rename_i kd _; cases kd <;> exact noneE e
          | cons y' ys => cases ys with
            | cons _ _ =>
              cases x <;> try (exact noneE e)
              rename_i v
              cases v <;> try (exact noneE e)
              rename_i kd _
              cases kd <;> try (exact noneE e)
              cases y' <;> try (exact noneE e)
              rename_i v
              cases v <;> try (exact noneE e)
              rename_i kd _
              cases kd <;> exact noneE e
            | nil =>
              obtain ⟨v,u,rfl,h1,h2⟩ := RVals_two r
              cases x <;> try (exact noneE e)
              rename_i v
              cases v <;> try (exact noneE e)
              rename_i kd _
              cases kd <;> try (exact noneE e)
              cases y' <;> try (exact noneE e)
              rename_i v
              cases v <;> try (exact noneE e)
              rename_i kd _
              cases kd <;> try (exact noneE e)
              simp only [core1,Option.some.injEq,Prod.mk.injEq] at e
              obtain ⟨rfl,rfl⟩ := e
              exact min_yield ok h1 h2
      · -- max
        cases ps with
        | nil => exact noneE e
        | cons x xs => cases xs with
          | nil => cases x <;> try (exact noneE e)
                   rename_i v; cases v <;> try (exact noneE e)
                   rename_i kd _; cases kd <;> exact noneE e
          | cons y' ys => cases ys with
            | cons _ _ =>
              cases x <;> try (exact noneE e)
              rename_i v
              cases v <;> try (exact noneE e)
              rename_i kd _
              cases kd <;> try (exact noneE e)
              cases y' <;> try (exact noneE e)
              rename_i v
              cases v <;> try (exact noneE e)
              rename_i kd _
              cases kd <;> exact noneE e
            | nil =>
              obtain ⟨v,u,rfl,h1,h2⟩ := RVals_two r
              cases x <;> try (exact noneE e)
              rename_i v
              cases v <;> try (exact noneE e)
              rename_i kd _
              cases kd <;> try (exact noneE e)
              cases y' <;> try (exact noneE e)
              rename_i v
              cases v <;> try (exact noneE e)
              rename_i kd _
              cases kd <;> try (exact noneE e)
              simp only [core1,Option.some.injEq,Prod.mk.injEq] at e
              obtain ⟨rfl,rfl⟩ := e
              exact max_yield ok h1 h2
      · -- clear
        unfold okMk at hk
        split at hk
        · rename_i el i h0
          split at hk
          · rename_i zv hz
            simp only [Bool.and_eq_true,decide_eq_true_eq] at hk
            obtain ⟨⟨⟨⟨⟨⟨k1,k2⟩,k3⟩,k4⟩,k5⟩,k6⟩,k7⟩ := hk
            cases ps with
            | nil => exact noneE e
            | cons x xs => cases xs with
              | cons _ _ => cases x <;> exact noneE e
              | nil =>
                obtain ⟨v,rfl,h1⟩ := RVals_one r
                cases x <;> try (exact noneE e)
                rename_i id m i
                simp only [core1] at e
                split at e
                · rename_i kk xs hs
                  split at e
                  · rename_i hc
                    obtain ⟨rfl,rfl⟩ := hc
                    simp only [Option.some.injEq,Prod.mk.injEq] at e
                    obtain ⟨rfl,rfl⟩ := e
                    exact clear_yield ok h0 k1 k2 hz k4 k5 k6 k7 hs h1
                  · cases e
                · cases e
          · cases hk
        · cases hk
      · -- copy
        rename_i t1 t2
        obtain ⟨⟨el,ti⟩,h0,h0'⟩ := Option.map_eq_some_iff.1 (eq_of_beq hk)
        simp only at h0'
        cases ps with
        | nil => exact noneE e
        | cons x xs => cases xs with
          | nil => cases x <;> exact noneE e
          | cons y' ys => cases ys with
            | cons _ _ => cases x <;> exact noneE e
            | nil =>
              obtain ⟨v,u,rfl,h1,h2⟩ := RVals_two r
              cases x <;> try (exact noneE e)
              rename_i id m i
              simp only [core1] at e
              split at e
              · rename_i kk xs hs
                split at e
                · rename_i hc
                  obtain ⟨rfl,rfl,hsc⟩ := hc
                  split at e
                  · rename_i ys ws' hsrc
                    split at e
                    · rename_i hc2
                      simp only [Option.some.injEq,Prod.mk.injEq] at e
                      obtain ⟨rfl,rfl⟩ := e
                      exact copy_yield ok h0 h0' hs hsc hc2.1 hc2.2 hsrc h1 h2
                    · cases e
                  · cases e
                · cases e
              · cases e
      · cases hk
    · cases hk
  · cases hk
end
end Go.Am
end
section
/- A call's view: some objects are hidden; after it they stand as before. -/
set_option linter.unusedSimpArgs false
set_option linter.unusedVariables false
namespace Go.Am
open Go.RowKit
mutual
def inLv (m : Nat) : PV → Bool
  | .own id _ | .ref id _ _ _ | .sub id _ _ | .mp id => decide (id.1 < m)
  | .clo _ cs | .agg cs | .tup cs | .bx cs => inLvs m cs
  | _ => true
def inLvs (m : Nat) : List PV → Bool
  | [] => true
  | x :: xs => inLv m x && inLvs m xs
end
mutual
theorem inLv_up {n : Nat} : ∀ {x : PV},upTo n x = true → inLv (n + 1) x = true
  | .undef,_ | .sc _,_ | .nils,_ | .sl _ _ _,_ | .iref _ _,_ | .non,_ => rfl
  | .own _ _,t | .ref _ _ _ _,t | .sub _ _ _,t | .mp _,t => by simp only [upTo,decide_eq_true_eq] at t; simp only [inLv,decide_eq_true_eq]; omega
  | .clo _ cs,t | .agg cs,t | .tup cs,t | .bx cs,t => by simp only [upTo] at t; simp only [inLv]; exact inLvs_up t
theorem inLvs_up {n : Nat} : ∀ {xs : List PV},upTos n xs = true → inLvs (n + 1) xs = true
  | [],_ => rfl
  | x :: xs,t => by
    simp only [upTos,Bool.and_eq_true] at t
    simp only [inLvs,Bool.and_eq_true]
    exact ⟨inLv_up t.1,inLvs_up t.2⟩
end
mutual
theorem inLv_noRef {m : Nat} : ∀ {x : PV},noRef x = true → inLv m x = true
  | .undef,_ | .sc _,_ | .nils,_ | .sl _ _ _,_ | .iref _ _,_ | .non,_ => rfl
  | .own _ _,t | .ref _ _ _ _,t | .sub _ _ _,t | .mp _,t => by simp [noRef] at t
  | .clo _ cs,t | .agg cs,t | .tup cs,t | .bx cs,t => by simp only [noRef] at t; simp only [inLv]; exact inLvs_noRef t
theorem inLvs_noRef {m : Nat} : ∀ {xs : List PV},noRefs xs = true → inLvs m xs = true
  | [],_ => rfl
  | x :: xs,t => by
    simp only [noRefs,Bool.and_eq_true] at t
    simp only [inLvs,Bool.and_eq_true]
    exact ⟨inLv_noRef t.1,inLvs_noRef t.2⟩
end
mutual
theorem inLv_at {n : Nat} : ∀ {x : PV},upTo n x = true → atLvl n x = false → inLv n x = true
  | .undef,_,_ | .sc _,_,_ | .nils,_,_ | .sl _ _ _,_,_ | .iref _ _,_,_ | .non,_,_ => rfl
  | .own _ _,t,u | .ref _ _ _ _,t,u | .sub _ _ _,t,u | .mp _,t,u => by
    simp only [upTo,decide_eq_true_eq] at t
    simp only [atLvl,decide_eq_false_iff_not] at u
    simp only [inLv,decide_eq_true_eq]; omega
  | .clo _ cs,t,u | .agg cs,t,u | .tup cs,t,u | .bx cs,t,u => by simp only [upTo] at t; simp only [atLvl] at u; simp only [inLv]; exact inLvs_at t u
theorem inLvs_at {n : Nat} : ∀ {xs : List PV},upTos n xs = true → atLvls n xs = false → inLvs n xs = true
  | [],_,_ => rfl
  | x :: xs,t,u => by
    simp only [upTos,Bool.and_eq_true] at t
    simp only [atLvls,Bool.or_eq_false_iff] at u
    simp only [inLvs,Bool.and_eq_true]
    exact ⟨inLv_at t.1 u.1,inLvs_at t.2 u.2⟩
end
section
variable {c c' : Ctx} {S S' : Sto} {h h' : Hp} {m : Nat}
mutual
theorem R.vis (hF : ∀ b o,c.F b = some o → c'.F b = some o) (hS : ∀ id,id.1 < m → S' id = S id ∧ c'.L id = c.L id) : ∀ (x : PV) (vs : List Value) (fp : List Nat),inLv m x = true → (∀ b ∈ fp,h' b = h b) → R c S h x vs fp → R c' S' h' x vs fp
  | .undef,_,_,_,_,r => r
  | .sc _,_,_,_,_,r => r
  | .nils,_,_,_,_,r => r
  | .sl u k xs,vs,fp,_,hf,r => by
    have ht : tree (.sl u k xs) = true := by
      cases u
      · exact r.1
      · exact r.1
    exact R.data hF _ vs fp ht hf r
  | .own id n,vs,fp,t,_,r => by
    simp only [inLv,decide_eq_true_eq] at t
    obtain ⟨e1,e2⟩ := hS id t
    obtain ⟨h0,v,h1,h2,h3⟩ := r
    exact ⟨h0,v,h1,h2,by unfold OwnOK at h3 ⊢; rw [e1,e2]; exact h3⟩
  | .ref id n i j,vs,fp,t,_,r => by
    simp only [inLv,decide_eq_true_eq] at t
    obtain ⟨e1,e2⟩ := hS id t
    obtain ⟨h0,v,h1,h2,h3⟩ := r
    exact ⟨h0,v,h1,h2,by unfold RefOK at h3 ⊢; rw [e1,e2]; exact h3⟩
  | .sub id n i,vs,fp,t,_,r => by
    simp only [inLv,decide_eq_true_eq] at t
    obtain ⟨e1,e2⟩ := hS id t
    obtain ⟨h0,v,h1,h2,h3⟩ := r
    exact ⟨h0,v,h1,h2,by unfold SubOK at h3 ⊢; rw [e1,e2]; exact h3⟩
  | .iref cs j,vs,fp,_,_,r => by
    obtain ⟨h0,g,off,cur,e,fr,ws,h1,h2,h3,h4,h5,h6⟩ := r
    exact ⟨h0,g,off,cur,e,fr,ws,h1,hF _ _ h2,h3,h4,Rs.data hF cs ws [] h4 (fun b hb => by cases hb) h5,h6⟩
  | .mp id,vs,fp,t,_,r => by
    simp only [inLv,decide_eq_true_eq] at t
    obtain ⟨e1,e2⟩ := hS id t
    obtain ⟨h0,v,h1,h2,h3⟩ := r
    exact ⟨h0,v,h1,h2,by unfold MapOK at h3 ⊢; rw [e1,e2]; exact h3⟩
  | .clo f caps,vs,fp,t,_,r => by
    simp only [inLv] at t
    obtain ⟨h0,ws,h1,h2,h3⟩ := r
    exact ⟨h0,ws,h1,h2,Rs.vis hF hS caps ws [] t (fun b hb => by cases hb) h3⟩
  | .agg cs,vs,fp,t,hf,r => by
    simp only [inLv] at t
    exact ⟨r.1,Rs.vis hF hS cs vs fp t hf r.2⟩
  | .tup _,_,_,_,_,r => r.elim
  | .bx _,_,_,_,_,r => r.elim
  | .non,_,_,_,_,r => r.elim
theorem Rs.vis (hF : ∀ b o,c.F b = some o → c'.F b = some o) (hS : ∀ id,id.1 < m → S' id = S id ∧ c'.L id = c.L id) : ∀ (xs : List PV) (vs : List Value) (fp : List Nat),inLvs m xs = true → (∀ b ∈ fp,h' b = h b) → Rs c S h xs vs fp → Rs c' S' h' xs vs fp
  | [],_,_,_,_,r => r
  | x :: xs,vs,fp,t,hf,r => by
    simp only [inLvs,Bool.and_eq_true] at t
    obtain ⟨v1,v2,f1,f2,h1,h2,h3,h4⟩ := r
    exact ⟨v1,v2,f1,f2,h1,h2,R.vis hF hS x v1 f1 t.1 (fun b hb => hf b (by rw [h2]; exact List.mem_append_left _ hb)) h3,
      Rs.vis hF hS xs v2 f2 t.2 (fun b hb => hf b (by rw [h2]; exact List.mem_append_right _ hb)) h4⟩
end
theorem RV1.vis {x : PV} {v : Value} (hF : ∀ b o,c.F b = some o → c'.F b = some o) (hS : ∀ id,id.1 < m → S' id = S id ∧ c'.L id = c.L id) (t : inLv m x = true) (r : RV1 c S h x v) : RV1 c' S' h' x v := by
  cases x with
  | undef => trivial
  | non => exact r
  | agg cs => obtain ⟨vs,e,r⟩ := r; exact ⟨vs,e,R.vis hF hS _ vs [] t (fun b hb => by cases hb) r⟩
  | _ => exact R.vis (h := h) hF hS _ _ [] t (fun b hb => by cases hb) r
theorem RV1s.vis (hF : ∀ b o,c.F b = some o → c'.F b = some o) (hS : ∀ id,id.1 < m → S' id = S id ∧ c'.L id = c.L id) : ∀ {xs : List PV} {vs : List Value},inLvs m xs = true → RV1s c S h xs vs → RV1s c' S' h' xs vs
  | [],_,_,r => r
  | x :: xs,_,t,⟨v,ws,e,r1,r2⟩ => by
    simp only [inLvs,Bool.and_eq_true] at t
    exact ⟨v,ws,e,r1.vis hF hS t.1,RV1s.vis hF hS t.2 r2⟩
theorem RVal.vis {x : PV} {v : Value} (hF : ∀ b o,c.F b = some o → c'.F b = some o) (hS : ∀ id,id.1 < m → S' id = S id ∧ c'.L id = c.L id) (t : inLv m x = true) (r : RVal c S h x v) : RVal c' S' h' x v := by
  cases x with
  | tup ps => obtain ⟨vs,e,r⟩ := r; exact ⟨vs,e,RV1s.vis hF hS t r⟩
  | _ => simp only [RVal] at r ⊢; exact RV1.vis hF hS t r
theorem RVals.vis {w w' : World} (hF : ∀ b o,c.F b = some o → c'.F b = some o) (hS : ∀ id,id.1 < m → S' id = S id ∧ c'.L id = c.L id) : ∀ {xs : List PV} {vs : List Value},inLvs m xs = true → RVals c S (hp w) xs vs → RVals c' S' (hp w') xs vs
  | [],_,_,r => r
  | x :: xs,_,t,⟨v,ws,e,r1,r2⟩ => by
    simp only [inLvs,Bool.and_eq_true] at t
    exact ⟨v,ws,e,r1.vis hF hS t.1,RVals.vis hF hS t.2 r2⟩
theorem RO.vis {id : Id} {ob : OB} {fp : List Nat} (hF : ∀ b o,c.F b = some o → c'.F b = some o) (hS : ∀ i,i.1 < id.1 + 1 → S' i = S i ∧ c'.L i = c.L i) (hf : ∀ b ∈ fp,h' b = h b) (r : RO c S h id ob fp) : RO c' S' h' id ob fp := by
  have hL := (hS id (Nat.lt_succ_self _)).2
  cases ob with
  | box cs =>
    obtain ⟨cur,e,h1,h2,h3,h4,h5⟩ := r
    refine ⟨cur,e, ?_,h2,Rs.vis hF hS cs _ [] (inLvs_up h5) (fun b hb => by cases hb) h3,by rw [hL]; exact h4,h5⟩
    rw [hL,hf _ (by rw [h4]; exact List.mem_singleton.2 rfl)]; exact h1
  | row k xs =>
    obtain ⟨t,l,r⟩ := r
    refine ⟨t,l, ?_⟩
    rw [hL]
    rcases r with r | ⟨fq,h1,⟨cur,e,ws,g1,g2,g3,g4,g5,g6⟩,h3⟩
    · exact .inl r
    · refine .inr ⟨fq,h1,⟨cur,e,ws, ?_,g2,g3,g4,Rs.data hF xs ws fq t (fun b hb => hf b (by rw [h3]; exact List.mem_cons_of_mem _ hb)) g5,g6⟩,h3⟩
      rw [hf _ (by rw [h3]; exact List.mem_cons_self)]; exact g1
  | frz k xs =>
    obtain ⟨t,l,e,r⟩ := r
    refine ⟨t,l,e, ?_⟩
    rw [hL]
    rcases r with r | ⟨cur,et,ws,h1,hcp,h2,h3,h4⟩
    · exact .inl r
    · exact .inr ⟨cur,et,ws,h1,hcp,hF _ _ h2,Rs.data hF xs ws [] t (fun b hb => by cases hb) h3,h4⟩
  | dead => exact r
  | map s es =>
    obtain ⟨r1,r2⟩ := r
    refine ⟨?_,by rw [hL]; exact r2⟩
    rw [hL]
    exact r1.data hF (hf _ (by rw [r2]; exact List.mem_singleton.2 rfl))
end
open Classical in
noncomputable def hideC (c : Ctx) (S : Sto) (fp : Id → List Nat) (m : Nat) (h : Hp) : Ctx :=
  { F := c.F,L := c.L,X := fun b => if ∃ id ob,m ≤ id.1 ∧ S id = some ob ∧ b ∈ fp id then h b else c.X b }
def hideS (S : Sto) (m : Nat) : Sto := fun id => if id.1 < m then S id else none
def backC (c c' : Ctx) (m : Nat) : Ctx := { F := c'.F,L := fun id => if id.1 < m then c'.L id else c.L id,X := c.X }
def backS (S S' : Sto) (m : Nat) : Sto := fun id => if id.1 < m then S' id else S id
def backF (fp fp' : Id → List Nat) (m : Nat) : Id → List Nat := fun id => if id.1 < m then fp' id else fp id
section
variable {c c' : Ctx} {S S' : Sto} {w w' : World} {fp fp' : Id → List Nat} {m : Nat}
theorem hideS_some {id : Id} {ob : OB} (h : hideS S m id = some ob) : id.1 < m ∧ S id = some ob := by
  unfold hideS at h
  split at h
  · exact ⟨by assumption,h⟩
  · cases h
theorem hide_ok (ok : StOK c S (hp w) fp) : StOK (hideC c S fp m (hp w)) (hideS S m) (hp w) fp := by
  have hx : ∀ {id ob b},hideS S m id = some ob → b ∈ fp id → ¬ ∃ id ob,m ≤ id.1 ∧ S id = some ob ∧ b ∈ fp id := by
    rintro id ob b hs hb ⟨id',ob',hm,hs',hb'⟩
    obtain ⟨h1,h2⟩ := hideS_some hs
    exact ok.dj id id' ob ob' h2 hs' (fun e => by subst e; omega) b hb hb'
  constructor
  · intro id ob hs
    obtain ⟨h1,h2⟩ := hideS_some hs
    refine RO.vis (c := c) (S := S) (fun _ _ h => h) (fun i hi => ⟨?_,rfl⟩) (fun _ _ => rfl) (ok.ob id ob h2)
    unfold hideS
    rw [if_pos (by omega)]
  · intro id ob hs; exact ok.nd id ob (hideS_some hs).2
  · intro id id' ob ob' hs hs'; exact ok.dj id id' ob ob' (hideS_some hs).2 (hideS_some hs').2
  · intro id ob hs b hb
    have := ok.nF id ob (hideS_some hs).2 b hb
    refine ⟨this.1, ?_⟩
    simp only [hideC]
    rw [if_neg (hx hs hb)]; exact this.2
  · rintro b o (h | h)
    · exact ok.okF b o (.inl h)
    · simp only [hideC] at h
      split at h
      · exact h
      · exact ok.okF b o (.inr h)
  · intro b o h
    simp only [hideC] at h ⊢
    split
    · rename_i hh
      obtain ⟨id,ob,_,hs,hb⟩ := hh
      exact (ok.nF id ob hs b hb).no (.inl h)
    · exact ok.dis b o h
theorem StepOB.congr {c1 c2 d1 d2 : Ctx} {id : Id} {a b : OB} (h1 : d1.L id = c1.L id) (h2 : d2.L id = c2.L id) (h : StepOB c1 c2 id a b) : StepOB d1 d2 id a b := by
  cases a <;> cases b <;> simp only [StepOB] at h ⊢ <;> first | trivial | exact h.elim | (rw [h1,h2]; exact h)
theorem back_ok (ok : StOK c S (hp w) fp) (ok' : StOK c' S' (hp w') fp') (ha : Adv (hideC c S fp m (hp w)) c' (hideS S m) S') :
    StOK (backC c c' m) (backS S S' m) (hp w') (backF fp fp' m) ∧ Adv c (backC c c' m) S (backS S S' m) := by
  have hadv : Adv c (backC c c' m) S (backS S S' m) := by
    refine ⟨ha.F,rfl,fun id ob hs => ?_⟩
    by_cases hm : id.1 < m
    · obtain ⟨ob',h1,h2⟩ := ha.st id ob (by simp [hideS,hm,hs])
      exact ⟨ob',by simp [backS,hm,h1],h2.congr rfl (by simp [backC,hm])⟩
    · exact ⟨ob,by simp [backS,hm,hs],StepOB.rfl' (by simp [backC,hm])⟩
  -- hidden blocks
  have hX : c'.X = (hideC c S fp m (hp w)).X := ha.X
  have hid : ∀ {id ob b},¬ id.1 < m → S id = some ob → b ∈ fp id → ∃ o,hp w b = some o ∧ c'.X b = some o := by
    intro id ob b hm hs hb
    obtain ⟨o,ho⟩ : ∃ o,hp w b = some o := by
      have := ok.lt hs hb
      exact ⟨_,Array.getElem?_eq_getElem this⟩
    refine ⟨o,ho, ?_⟩
    rw [hX]
    simp only [hideC]
    rw [if_pos ⟨id,ob,by omega,hs,hb⟩]; exact ho
  have hsame : ∀ {id ob b},¬ id.1 < m → S id = some ob → b ∈ fp id → hp w' b = hp w b := by
    intro id ob b hm hs hb
    obtain ⟨o,h1,h2⟩ := hid hm hs hb
    rw [h1]; exact ok'.okF b o (.inr h2)
  have hcX : ∀ b o,c.X b = some o → c'.X b = some o := by
    intro b o h
    rw [hX]
    simp only [hideC]
    rw [if_neg]
    · exact h
    · rintro ⟨id,ob,_,hs,hb⟩
      exact (ok.nF id ob hs b hb).no (.inr h)
  refine ⟨⟨?_, ?_, ?_, ?_, ?_, ?_⟩,hadv⟩
  · intro id ob hs
    by_cases hm : id.1 < m
    · simp only [backS,hm,if_true] at hs
      simp only [backF,hm,if_true]
      refine RO.vis (c := c') (S := S') (fun _ _ h => h) (fun i hi => ?_) (fun _ _ => rfl) (ok'.ob id ob hs)
      have : i.1 < m := by omega
      simp [backS,backC,this]
    · simp only [backS,hm,if_false] at hs
      simp only [backF,hm,if_false]
      exact (ok.ob id ob hs).adv hadv (by simp [backC,hm]) (fun b hb => hsame hm hs hb)
  · intro id ob hs
    by_cases hm : id.1 < m
    · simp only [backS,hm,if_true] at hs; simp only [backF,hm,if_true]; exact ok'.nd id ob hs
    · simp only [backS,hm,if_false] at hs; simp only [backF,hm,if_false]; exact ok.nd id ob hs
  · intro id id' ob ob' hs hs' hne b hb hb'
    by_cases hm : id.1 < m <;> by_cases hm' : id'.1 < m <;> simp only [backS,backF,hm,hm',if_true,if_false] at hs hs' hb hb'
    · exact ok'.dj id id' ob ob' hs hs' hne b hb hb'
    · obtain ⟨o,_,h2⟩ := hid hm' hs' hb'
      exact (ok'.nF id ob hs b hb).no (.inr h2)
    · obtain ⟨o,_,h2⟩ := hid hm hs hb
      exact (ok'.nF id' ob' hs' b hb').no (.inr h2)
    · exact ok.dj id id' ob ob' hs hs' hne b hb hb'
  · intro id ob hs b hb
    by_cases hm : id.1 < m <;> simp only [backS,backF,hm,if_true,if_false] at hs hb
    · have := ok'.nF id ob hs b hb
      refine ⟨this.1, ?_⟩
      simp only [backC]
      cases h : c.X b with
      | none => rfl
      | some o => exact this.no (.inr (hcX b o h))
    · refine ⟨?_,(ok.nF id ob hs b hb).2⟩
      obtain ⟨o,_,h2⟩ := hid hm hs hb
      simp only [backC]
      cases h : c'.F b with
      | none => rfl
      | some o' => have := ok'.dis b o' h; rw [h2] at this; cases this
  · rintro b o (h | h)
    · exact ok'.okF b o (.inl h)
    · exact ok'.okF b o (.inr (hcX b o h))
  · intro b o h
    simp only [backC] at h ⊢
    cases h2 : c.X b with
    | none => rfl
    | some o' => have := ok'.dis b o h; rw [hcX b o' h2] at this; cases this
end
end Go.Am
end
section
/- Results: how they leave a frame,and how they come to the caller. -/
set_option linter.unusedSimpArgs false
set_option linter.unusedVariables false
namespace Go.Am
open Go.RowKit
def RX (c : Ctx) (S : Sto) (h : Hp) : PV → Value → List Nat → Prop
  | .bx cs,v,fp => ∃ g cur e,v = .pointer (some ⟨g,0,none⟩) ∧ h g = some (.cells cur e (0,0)) ∧ cs.all cellP = true ∧ plains cs = true ∧ Rs c S h cs cur.toList [] ∧ fp = [g]
  | .agg cs,v,fp => ∃ vs,v = .agg vs.toArray ∧ R c S h (.agg cs) vs fp
  | .undef,_,_ => False
  | x,v,fp => R c S h x [v] fp
def RXs (c : Ctx) (S : Sto) (h : Hp) : List PV → List Value → List Nat → Prop
  | [],vs,fp => vs = [] ∧ fp = []
  | x :: xs,vs,fp => ∃ v ws f1 f2,vs = v :: ws ∧ fp = f1 ++ f2 ∧ RX c S h x v f1 ∧ RXs c S h xs ws f2
def Ret (c : Ctx) (S : Sto) (h : Hp) : PV → Value → List Nat → Prop
  | .tup ps,v,fp => ∃ vs,v = .tuple vs.toArray ∧ RXs c S h ps vs fp
  | x,v,fp => RX c S h x v fp
section
variable {c c' : Ctx} {S S' : Sto} {w w' : World} {fp fp' : Id → List Nat}
theorem nodupI_cons {a : Id} {r : List Id} (h : nodupI (a :: r) = true) : a ∉ r ∧ nodupI r = true := by
  simp only [nodupI,Bool.and_eq_true,List.all_eq_true] at h
  refine ⟨fun ha => ?_,h.2⟩
  have := h.1 a ha
  simp at this
theorem free_ids (ok : StOK c S (hp w) fp) {n : Nat} : ∀ {ids : List Id},nodupI ids = true → (∀ id ∈ ids,id.1 = n ∧ ∃ ob,S id = some ob) → Free c (hideS S n) fp (ids.flatMap fp)
  | [],_,_ => ⟨List.nodup_nil,fun b hb => by cases hb⟩
  | a :: r,hn,hi => by
    obtain ⟨h1,h2⟩ := nodupI_cons hn
    obtain ⟨ha,ob,hs⟩ := hi a List.mem_cons_self
    have ih := free_ids ok h2 (fun id hid => hi id (List.mem_cons_of_mem _ hid))
    refine ⟨?_,fun b hb => ?_⟩
    · simp only [List.flatMap_cons]
      refine List.nodup_append.2 ⟨ok.nd a ob hs,ih.1,fun x hx y hy e => ?_⟩
      subst e
      obtain ⟨id,hid,hb⟩ := List.mem_flatMap.1 hy
      obtain ⟨_,ob',hs'⟩ := hi id (List.mem_cons_of_mem _ hid)
      exact ok.dj a id ob ob' hs hs' (fun e => h1 (e ▸ hid)) x hx hb
    · simp only [List.flatMap_cons] at hb
      rcases List.mem_append.1 hb with hb | hb
      · refine ⟨ok.nF a ob hs b hb,fun id ob' hs' hb' => ?_⟩
        obtain ⟨h3,h4⟩ := hideS_some hs'
        exact ok.dj a id ob ob' hs h4 (fun e => by subst e; omega) b hb hb'
      · exact ih.2 b hb
mutual
theorem inLv_plain {m : Nat} : ∀ {x : PV},plain x = true → inLv m x = true
  | .sc _,_ | .nils,_ | .sl _ _ _,_ => rfl
  | .undef,h | .iref _ _,h | .non,h | .own _ _,h | .ref _ _ _ _,h | .sub _ _ _,h | .mp _,h | .clo _ _,h | .tup _,h | .bx _,h => by simp [plain] at h
  | .agg ds,h => by simp only [plain] at h; simp only [inLv]; exact inLvs_plains h
theorem inLvs_plains {m : Nat} : ∀ {xs : List PV},plains xs = true → inLvs m xs = true
  | [],_ => rfl
  | x :: xs,h => by
    simp only [plains,Bool.and_eq_true] at h
    simp only [inLvs,Bool.and_eq_true]
    exact ⟨inLv_plain h.1,inLvs_plains h.2⟩
end
mutual
theorem upTo_plain {m : Nat} : ∀ {x : PV},plain x = true → upTo m x = true
  | .sc _,_ | .nils,_ | .sl _ _ _,_ => rfl
  | .undef,h | .iref _ _,h | .non,h | .own _ _,h | .ref _ _ _ _,h | .sub _ _ _,h | .mp _,h | .clo _ _,h | .tup _,h | .bx _,h => by simp [plain] at h
  | .agg ds,h => by simp only [plain] at h; simp only [upTo]; exact upTos_plains h
theorem upTos_plains {m : Nat} : ∀ {xs : List PV},plains xs = true → upTos m xs = true
  | [],_ => rfl
  | x :: xs,h => by
    simp only [plains,Bool.and_eq_true] at h
    simp only [upTos,Bool.and_eq_true]
    exact ⟨upTo_plain h.1,upTos_plains h.2⟩
end
theorem expo1_ok {n : Nat} {x y : PV} {ids : List Id} {v : Value} (ok : StOK c S (hp w) fp) (hlv : ∀ i ob,S i = some ob → i.1 ≤ n) (r : R c S (hp w) x [v] []) (e : expo1 n S x = some (y,ids)) :
    RX c (hideS S n) (hp w) y v (ids.flatMap fp) ∧ (∀ id ∈ ids,id.1 = n ∧ ∃ ob,S id = some ob) := by
  have hS : ∀ i : Id,i.1 < n → hideS S n i = S i ∧ c.L i = c.L i := fun i hi => ⟨by simp [hideS,hi],rfl⟩
  have same : ∀ {z : PV},inLv n z = true → R c S (hp w) z [v] [] → R c (hideS S n) (hp w) z [v] [] := fun hz r => R.vis (fun _ _ h => h) hS _ _ _ hz (fun _ _ => rfl) r
  unfold expo1 at e
  split at e
  · simp only [Option.some.injEq,Prod.mk.injEq] at e
    obtain ⟨rfl,rfl⟩ := e
    exact ⟨same rfl r,fun id hid => by cases hid⟩
  · simp only [Option.some.injEq,Prod.mk.injEq] at e
    obtain ⟨rfl,rfl⟩ := e
    exact ⟨same rfl r,fun id hid => by cases hid⟩
  · simp only [Option.some.injEq,Prod.mk.injEq] at e
    obtain ⟨rfl,rfl⟩ := e
    exact ⟨same rfl r,fun id hid => by cases hid⟩
  · rename_i id m
    split at e
    · rename_i hn
      have hv := own_of r
      split at e
      · rename_i k xs hs
        split at e
        · rename_i hm
          simp only [Option.some.injEq,Prod.mk.injEq] at e
          obtain ⟨rfl,rfl⟩ := e
          subst hm
          refine ⟨?_,fun i hi => by simp only [List.mem_singleton] at hi; subst hi; exact ⟨hn,_,hs⟩⟩
          simp only [List.flatMap_cons,List.flatMap_nil,List.append_nil]
          exact row_uniq ok hs hv (fun _ _ h => h)
        · cases e
      · rename_i k xs hs
        split at e
        · rename_i hm
          simp only [Option.some.injEq,Prod.mk.injEq] at e
          obtain ⟨rfl,rfl⟩ := e
          subst hm
          exact ⟨same rfl (row_shr ok hs hv),fun i hi => by cases hi⟩
        · cases e
      · cases e
    · rename_i hn
      simp only [Option.some.injEq,Prod.mk.injEq] at e
      obtain ⟨rfl,rfl⟩ := e
      have := R.up hlv _ _ _ r
      simp only [upTo,decide_eq_true_eq] at this
      exact ⟨same (by simp only [inLv,decide_eq_true_eq]; omega) r,fun i hi => by cases hi⟩
  · rename_i id
    split at e
    · cases e
    · rename_i hn
      simp only [Option.some.injEq,Prod.mk.injEq] at e
      obtain ⟨rfl,rfl⟩ := e
      have := R.up hlv _ _ _ r
      simp only [upTo,decide_eq_true_eq] at this
      exact ⟨same (by simp only [inLv,decide_eq_true_eq]; omega) r,fun i hi => by cases hi⟩
  · rename_i id m i j
    split at e
    · rename_i hn
      split at e
      · rename_i cs hs
        split at e
        · rename_i hc
          obtain ⟨rfl,rfl,rfl,hp⟩ := hc
          simp only [Option.some.injEq,Prod.mk.injEq] at e
          obtain ⟨rfl,rfl⟩ := e
          obtain ⟨_,u,hu,_,hv⟩ := r
          obtain rfl : v = u := by simpa using hu
          simp only [RefOK,hs] at hv
          obtain ⟨cur,et,h1,h2,h3,h4,_⟩ := ok.ob id _ hs
          refine ⟨⟨_,cur,et,hv trivial trivial,h1,h2,hp,Rs.vis (fun _ _ h => h) hS _ _ _ (inLvs_plains hp) (fun _ _ => rfl) h3,by simp [h4]⟩,fun i hi => by simp only [List.mem_singleton] at hi; subst hi; exact ⟨hn,_,hs⟩⟩
        · cases e
      · cases e
    · rename_i hn
      simp only [Option.some.injEq,Prod.mk.injEq] at e
      obtain ⟨rfl,rfl⟩ := e
      have := R.up hlv _ _ _ r
      simp only [upTo,decide_eq_true_eq] at this
      exact ⟨same (by simp only [inLv,decide_eq_true_eq]; omega) r,fun i hi => by cases hi⟩
  · cases e
theorem expoC_ok {n : Nat} {x y : PV} {ids : List Id} {v : Value} (ok : StOK c S (hp w) fp) (hlv : ∀ i ob,S i = some ob → i.1 ≤ n) (r : R c S (hp w) x [v] []) (e : expoC n S x = some (y,ids)) :
    R c (hideS S n) (hp w) y [v] (ids.flatMap fp) ∧ cellP y = true ∧ (∀ id ∈ ids,id.1 = n ∧ ∃ ob,S id = some ob) := by
  unfold expoC at e
  split at e
  · cases e
  · rename_i hb
    obtain ⟨h1,h2⟩ := expo1_ok ok hlv r e
    have e0 := e
    unfold expo1 at e
    split at e <;> (repeat' split at e) <;> first
      | (cases e; done)
      | (simp only [Option.some.injEq,Prod.mk.injEq] at e
         obtain ⟨rfl,rfl⟩ := e
         first
           | exact ⟨h1,rfl,h2⟩
           | exact (hb _ _ e0).elim)
theorem expos_ok {n : Nat} (ok : StOK c S (hp w) fp) (hlv : ∀ i ob,S i = some ob → i.1 ≤ n) : ∀ {xs ys : List PV} {ids : List Id} {vs : List Value},xs.all cellP = true → Rs c S (hp w) xs vs [] → expos n S xs = some (ys,ids) →
    Rs c (hideS S n) (hp w) ys vs (ids.flatMap fp) ∧ ys.all cellP = true ∧ (∀ id ∈ ids,id.1 = n ∧ ∃ ob,S id = some ob)
  | [],ys,ids,vs,_,r,e => by
    simp only [expos,Option.some.injEq,Prod.mk.injEq] at e
    obtain ⟨rfl,rfl⟩ := e
    exact ⟨r,rfl,fun id hid => by cases hid⟩
  | x :: xs,ys,ids,vs,hc,r,e => by
    simp only [expos] at e
    split at e
    · rename_i y i1 ys' i2 h1 h2
      simp only [Option.some.injEq,Prod.mk.injEq] at e
      obtain ⟨rfl,rfl⟩ := e
      obtain ⟨v1,v2,f1,f2,rfl,hf,r1,r2⟩ := r
      simp only [List.all_cons,Bool.and_eq_true] at hc
      have hf' := hf.symm
      simp only [List.append_eq_nil_iff] at hf'
      obtain ⟨rfl,rfl⟩ := hf'
      obtain ⟨v,rfl,_⟩ := R_one hc.1 r1
      obtain ⟨a1,a2,a3⟩ := expoC_ok ok hlv r1 h1
      obtain ⟨b1,b2,b3⟩ := expos_ok ok hlv hc.2 r2 h2
      refine ⟨⟨[v],v2,i1.flatMap fp,i2.flatMap fp,rfl,by simp,a1,b1⟩,by simp [a2,b2],fun id hid => ?_⟩
      rcases List.mem_append.1 hid with h | h
      · exact a3 id h
      · exact b3 id h
    · cases e
theorem expoE_ok {n : Nat} {x y : PV} {ids : List Id} {v : Value} (ok : StOK c S (hp w) fp) (hlv : ∀ i ob,S i = some ob → i.1 ≤ n) (r : RV1 c S (hp w) x v) (e : expoE n S x = some (y,ids)) :
    RX c (hideS S n) (hp w) y v (ids.flatMap fp) ∧ (∀ id ∈ ids,id.1 = n ∧ ∃ ob,S id = some ob) := by
  cases x with
  | agg cs =>
    simp only [expoE] at e
    split at e
    · rename_i ys i1 h1
      simp only [Option.some.injEq,Prod.mk.injEq] at e
      obtain ⟨rfl,rfl⟩ := e
      obtain ⟨vs,rfl,hc,r⟩ := r
      obtain ⟨a1,a2,a3⟩ := expos_ok ok hlv hc r h1
      exact ⟨⟨vs,rfl,a2,a1⟩,a3⟩
    · cases e
  | undef => simp [expoE,expo1] at e
  | tup _ => simp [expoE,expo1] at e
  | bx _ => simp [expoE,expo1] at e
  | non => simp [expoE,expo1] at e
  | _ => exact expo1_ok ok hlv r (by simpa only [expoE] using e)
theorem expoEs_ok {n : Nat} (ok : StOK c S (hp w) fp) (hlv : ∀ i ob,S i = some ob → i.1 ≤ n) : ∀ {xs ys : List PV} {ids : List Id} {vs : List Value},RV1s c S (hp w) xs vs → expoEs n S xs = some (ys,ids) →
    RXs c (hideS S n) (hp w) ys vs (ids.flatMap fp) ∧ (∀ id ∈ ids,id.1 = n ∧ ∃ ob,S id = some ob)
  | [],ys,ids,vs,r,e => by
    simp only [expoEs,Option.some.injEq,Prod.mk.injEq] at e
    obtain ⟨rfl,rfl⟩ := e
    exact ⟨⟨r,rfl⟩,fun id hid => by cases hid⟩
  | x :: xs,ys,ids,vs,r,e => by
    simp only [expoEs] at e
    split at e
    · rename_i y i1 ys' i2 h1 h2
      simp only [Option.some.injEq,Prod.mk.injEq] at e
      obtain ⟨rfl,rfl⟩ := e
      obtain ⟨v,v2,rfl,r1,r2⟩ := r
      obtain ⟨a1,a3⟩ := expoE_ok ok hlv r1 h1
      obtain ⟨b1,b3⟩ := expoEs_ok ok hlv r2 h2
      refine ⟨⟨v,v2,i1.flatMap fp,i2.flatMap fp,rfl,by simp,a1,b1⟩,fun id hid => ?_⟩
      rcases List.mem_append.1 hid with h | h
      · exact a3 id h
      · exact b3 id h
    · cases e
def single' : List Value → Value | [v] => v | vs => .tuple vs.toArray
theorem finish_ok {n : Nat} {xs : List PV} {y : PV} {ids : List Id} {vs : List Value} (ok : StOK c S (hp w) fp) (hlv : ∀ i ob,S i = some ob → i.1 ≤ n) (r : RV1s c S (hp w) xs vs)
    (hnt : ∀ x ∈ xs,∀ ps,x ≠ .tup ps) (e : expo n S (single xs) = some (y,ids)) (hnd : nodupI ids = true) :
    ∃ f,Ret c (hideS S n) (hp w) y (single' vs) f ∧ Free c (hideS S n) fp f := by
  have main : ∀ {zs : List PV},xs = zs → (∃ x,zs = [x]) ∨ (∀ x,zs ≠ [x]) := fun {zs} _ => by
    by_cases h : ∃ x,zs = [x]
    · exact .inl h
    · exact .inr fun x hx => h ⟨x,hx⟩
  rcases main rfl with ⟨x,rfl⟩ | hx
  · obtain ⟨v,ws,rfl,r1,r2⟩ := r
    simp only [RV1s] at r2
    subst r2
    simp only [single] at e
    have e' : expoE n S x = some (y,ids) := by
      cases x with
      | tup ps => exact absurd rfl (hnt _ List.mem_cons_self ps)
      | _ => simpa only [expo] using e
    obtain ⟨h1,h2⟩ := expoE_ok ok hlv r1 e'
    refine ⟨ids.flatMap fp, ?_,free_ids ok hnd h2⟩
    simp only [single']
    cases y with
    | tup ps => simp only [RX] at h1; exact h1.elim
    | _ => exact h1
  · have hs : single xs = .tup xs := by
      cases xs with
      | nil => rfl
      | cons a l => cases l with | nil => exact absurd rfl (hx a) | cons _ _ => rfl
    rw [hs] at e
    simp only [expo] at e
    split at e
    · rename_i ys i1 h1
      simp only [Option.some.injEq,Prod.mk.injEq] at e
      obtain ⟨rfl,rfl⟩ := e
      obtain ⟨a1,a2⟩ := expoEs_ok ok hlv r h1
      have hs' : single' vs = .tuple vs.toArray := by
        cases xs with
        | nil => simp only [RV1s] at r; subst r; rfl
        | cons a l =>
          obtain ⟨v,ws,rfl,_,r2⟩ := r
          cases l with
          | nil => exact absurd rfl (hx a)
          | cons b l => obtain ⟨u,us,rfl,_,_⟩ := r2; rfl
      exact ⟨_,by rw [hs']; exact ⟨vs,rfl,a1⟩,free_ids ok hnd a2⟩
    · cases e
end
end Go.Am
end
section
/- Results as they come to the caller. -/
set_option linter.unusedSimpArgs false
set_option linter.unusedVariables false
namespace Go.Am
open Go.RowKit
structure Added (c : Ctx) (S : Sto) (w : World) (fp : Id → List Nat) (f : List Nat) (c' : Ctx) (S' : Sto) (fp' : Id → List Nat) : Prop where
  ok : StOK c' S' (hp w) fp'
  adv : Adv c c' S S'
  F : c'.F = c.F
  X : c'.X = c.X
  own : ∀ id ob b,S' id = some ob → b ∈ fp' id → (∃ ob',S id = some ob' ∧ b ∈ fp id) ∨ b ∈ f
section
variable {c c' : Ctx} {S S' : Sto} {w w' : World} {fp fp' : Id → List Nat} {f f' : List Nat}
theorem Added.nil (ok : StOK c S (hp w) fp) : Added c S w fp [] c S fp := ⟨ok,Adv.refl _ _,rfl,rfl,fun id ob b hs hb => .inl ⟨ob,hs,hb⟩⟩
theorem Added.trans {c1 c2 S1 S2 fp1 fp2} (h1 : Added c S w fp f c1 S1 fp1) (h2 : Added c1 S1 w fp1 f' c2 S2 fp2) : Added c S w fp (f ++ f') c2 S2 fp2 := by
  refine ⟨h2.ok,h1.adv.trans h2.adv,h2.F.trans h1.F,h2.X.trans h1.X,fun id ob b hs hb => ?_⟩
  rcases h2.own id ob b hs hb with ⟨ob',hs',hb'⟩ | h
  · exact (h1.own id ob' b hs' hb').imp (fun h => h) (List.mem_append_left _)
  · exact .inr (List.mem_append_right _ h)
theorem Added.free {g : List Nat} (h : Added c S w fp f c' S' fp') (hf : Free c S fp (f ++ g)) : Free c' S' fp' g := by
  refine ⟨(List.nodup_append.1 hf.1).2.1,fun b hb => ?_⟩
  obtain ⟨h1,h2⟩ := hf.2 b (List.mem_append_right _ hb)
  refine ⟨⟨by rw [h.F]; exact h1.1,by rw [h.X]; exact h1.2⟩,fun id ob hs hb' => ?_⟩
  rcases h.own id ob b hs hb' with ⟨ob',hs',hb''⟩ | h'
  · exact h2 id ob' hs' hb''
  · exact (List.nodup_append.1 hf.1).2.2 b h' b hb rfl
theorem Free.left {g : List Nat} (hf : Free c S fp (f ++ g)) : Free c S fp f := ⟨(List.nodup_append.1 hf.1).1,fun b hb => hf.2 b (List.mem_append_left _ hb)⟩
theorem added {id : Id} {ob : OB} {l : Loc} (ok : StOK c S (hp w) fp) (hn : S id = none) (hro : RO (setL c id l) (upd S id ob) (hp w) id ob f) (hf : Free c S fp f) : Added c S w fp f (setL c id l) (upd S id ob) (setF fp id f) := by
  refine ⟨ok.step (Adv.new hn) (fun x => x = id) ?_ ?_ ok.okF ok.dis,Adv.new hn,rfl,rfl, ?_⟩
  · intro x ob' hx hne
    have hx' : S x = some ob' := by simpa [upd,hne] using hx
    exact ⟨hx',by simp [setL,hne],by simp [setF,hne],fun b hb => ⟨rfl,ok.nF x ob' hx' b hb⟩⟩
  · rintro x ob' hx rfl
    have he : ob' = ob := by simpa [upd,eq_comm] using hx
    subst he
    refine ⟨by simpa [setF] using hro,by simpa [setF] using hf.1,fun b hb => (hf.2 b (by simpa [setF] using hb)).1,fun id' ob'' hne hs b hb => ?_⟩
    simp only [setF,if_true] at hb
    simp only [setF,hne,if_false]
    exact (hf.2 b hb).2 id' ob'' (by simpa [upd,hne] using hs)
  · intro x ob' b hx hb
    by_cases hxi : x = id
    · subst hxi
      exact .inr (by simpa [setF] using hb)
    · exact .inl ⟨ob',by simpa [upd,hxi] using hx,by simpa [setF,hxi] using hb⟩
theorem upds_fresh : ∀ {ws : List (Id × OB)} {S : Sto} {id : Id},(∀ x ∈ ws,x.1 ≠ id) → upds S ws id = S id
  | [],_,_,_ => rfl
  | (i,o) :: r,S,id,h => by
    simp only [upds]
    rw [upds_fresh (fun x hx => h x (List.mem_cons_of_mem _ hx))]
    have := h _ List.mem_cons_self
    simp only at this
    simp [upd,Ne.symm this]
theorem impo1_ok {n d q : Nat} {x : PV} {v : Value} (hx : cellP x = true ∨ ∃ cs,x = .bx cs) (ok : StOK c S (hp w) fp) (r : RX c S (hp w) x v f) (hf : Free c S fp f) (hn : ∀ y ∈ (impo1 n d x q).2.2,S y.1 = none) :
    ∃ c' fp',Added c S w fp f c' (upds S (impo1 n d x q).2.2) fp' ∧ R c' (upds S (impo1 n d x q).2.2) (hp w) (impo1 n d x q).1 [v] [] ∧ cellP (impo1 n d x q).1 = true := by
  have same : impo1 n d x q = (x,q,[]) → R c S (hp w) x [v] f → cellP x = true → f = [] → ∃ c' fp',Added c S w fp f c' (upds S (impo1 n d x q).2.2) fp' ∧ R c' (upds S (impo1 n d x q).2.2) (hp w) (impo1 n d x q).1 [v] [] ∧ cellP (impo1 n d x q).1 = true := by
    intro e r hc h0
    subst h0
    rw [e]
    exact ⟨c,fp,Added.nil ok,r,hc⟩
  cases x with
  | bx cs =>
    obtain ⟨g,cur,e,rfl,h1,h2,h3,h4,rfl⟩ := r
    have hn' : S (n,d + 1000 * q) = none := hn _ List.mem_cons_self
    have ha := added (id := (n,d + 1000 * q)) (ob := .box cs) (l := ⟨g,none,0⟩) ok hn' ?_ hf
    · refine ⟨_,_,ha, ?_,rfl⟩
      exact ⟨rfl,_,rfl,rfl,by simp [RefOK,impo1,upds,upd,setL]⟩
    · refine ⟨cur,e,by simpa [setL] using h1,h2,Rs.adv (Adv.new hn') cs _ [] (fun b hb => by cases hb) h4,by simp [setL], ?_⟩
      exact upTos_plains h3
  | sl u k xs =>
    cases u with
    | false => exact same rfl r rfl r.2.2.1
    | true =>
      obtain ⟨t,hk,A,cp,hv,r⟩ := r
      obtain rfl : v = .slice A xs.length cp := by simpa using hv
      have hn' : S (n,d + 1000 * q) = none := hn _ List.mem_cons_self
      rcases r with ⟨rfl,rfl,rfl⟩ | ⟨g,cur,e,ws,fq,rfl,h2,h3,h4,h5,h6,h7,rfl⟩
      · have ha := added (id := (n,d + 1000 * q)) (ob := .row k []) (l := ⟨0,A,0⟩) ok hn' ⟨rfl,hk,.inl ⟨rfl,by simp [setL],rfl⟩⟩ hf
        exact ⟨_,_,ha,⟨rfl,_,rfl,rfl,by simp [OwnOK,impo1,upds,upd,setL]⟩,rfl⟩
      · have ha := added (id := (n,d + 1000 * q)) (ob := .row k xs) (l := ⟨g,some ⟨g,0,none⟩,cp⟩) ok hn' ⟨t,hk,.inr ⟨fq,by simp [setL],⟨cur,e,ws,by simpa [setL] using h2,by simpa [setL] using h3,by simpa [setL] using h4,by simpa [setL] using h5,Rs.adv (Adv.new hn') xs ws fq (fun _ _ => rfl) h6,h7⟩,by simp [setL]⟩⟩ hf
        exact ⟨_,_,ha,⟨rfl,_,rfl,rfl,by simp [OwnOK,impo1,upds,upd,setL]⟩,rfl⟩
  | undef => exact r.elim
  | sc _ => exact same rfl r rfl r.1
  | nils => exact same rfl r rfl r.1
  | own _ _ => exact same rfl r rfl r.1
  | ref _ _ _ _ => exact same rfl r rfl r.1
  | sub _ _ _ => exact same rfl r rfl r.1
  | iref _ _ => exact same rfl r rfl r.1
  | mp _ => exact same rfl r rfl r.1
  | clo _ _ => exact same rfl r rfl r.1
  | agg _ => simp [cellP] at hx
  | tup _ => simp [cellP] at hx
  | non => simp [cellP] at hx
theorem R_mono {x : PV} {vs : List Value} (ha : Adv c c' S S') (r : R c S (hp w) x vs f) : R c' S' (hp w) x vs f := R.adv ha _ _ _ (fun _ _ => rfl) r
theorem nodupId_ne {a b : List (Id × OB)} (h : nodupId (a ++ b) = true) : ∀ y ∈ b,∀ x ∈ a,x.1 ≠ y.1 := fun y hy x hx e => (nodupId_append h).2.2 x hx y hy e.symm
theorem RX_cell {x : PV} {v : Value} (hc : cellP x = true) (hu : x ≠ .undef) (r : R c S (hp w) x [v] f) : RX c S (hp w) x v f := by
  cases x <;> first | (simp [cellP] at hc; done) | exact absurd rfl hu | exact r
theorem impos_ok {n d : Nat} : ∀ {xs : List PV} {q : Nat} {vs : List Value} {c : Ctx} {S : Sto} {fp : Id → List Nat} {f : List Nat},xs.all cellP = true → StOK c S (hp w) fp → Rs c S (hp w) xs vs f → Free c S fp f →
    (∀ y ∈ (impos n d xs q).2.2,S y.1 = none) → nodupId (impos n d xs q).2.2 = true →
    ∃ c' fp',Added c S w fp f c' (upds S (impos n d xs q).2.2) fp' ∧ Rs c' (upds S (impos n d xs q).2.2) (hp w) (impos n d xs q).1 vs [] ∧ (impos n d xs q).1.all cellP = true
  | [],q,vs,c,S,fp,f,_,ok,r,_,_,_ => by
    obtain ⟨rfl,rfl⟩ := r
    exact ⟨c,fp,Added.nil ok,⟨rfl,rfl⟩,rfl⟩
  | x :: xs,q,vs,c,S,fp,f,hc,ok,r,hf,hn,hd => by
    obtain ⟨v1,v2,f1,f2,rfl,rfl,r1,r2⟩ := r
    simp only [List.all_cons,Bool.and_eq_true] at hc
    obtain ⟨v,rfl,ho⟩ := R_one hc.1 r1
    simp only [impos] at hn hd ⊢
    have key : ∃ c1 fp1,Added c S w fp f1 c1 (upds S (impo1 n d x q).2.2) fp1 ∧ R c1 (upds S (impo1 n d x q).2.2) (hp w) (impo1 n d x q).1 [v] [] ∧ cellP (impo1 n d x q).1 = true := by
      by_cases hu : x = .undef
      · subst hu
        obtain rfl := r1.1
        exact ⟨c,fp,Added.nil ok,r1,rfl⟩
      · exact impo1_ok (.inl hc.1) ok (RX_cell hc.1 hu r1) hf.left (fun y hy => hn y (List.mem_append_left _ hy))
    obtain ⟨c1,fp1,ha,hr,hcell⟩ := key
    obtain ⟨c2,fp2,hb,hrs,hall⟩ := impos_ok (q := (impo1 n d x q).2.1) hc.2 ha.ok (Rs.adv ha.adv _ _ _ (fun _ _ => rfl) r2) (ha.free hf) (fun y hy => by
      rw [upds_fresh (nodupId_ne hd y hy)]; exact hn y (List.mem_append_right _ hy)) (nodupId_append hd).2.1
    rw [upds_append]
    exact ⟨c2,fp2,ha.trans hb,⟨[v],v2,[],[],rfl,rfl,R_mono hb.adv hr,hrs⟩,by simp [hcell,hall]⟩
theorem impoE_ok {n d q : Nat} {x : PV} {v : Value} (ok : StOK c S (hp w) fp) (r : RX c S (hp w) x v f) (hf : Free c S fp f) (hn : ∀ y ∈ (impoE n d x q).2.2,S y.1 = none) (hd : nodupId (impoE n d x q).2.2 = true) :
    ∃ c' fp',Added c S w fp f c' (upds S (impoE n d x q).2.2) fp' ∧ RV1 c' (upds S (impoE n d x q).2.2) (hp w) (impoE n d x q).1 v := by
  cases x with
  | agg cs =>
    obtain ⟨vs,rfl,hc,r⟩ := r
    obtain ⟨c1,fp1,h1,h2,h3⟩ := impos_ok (n := n) (d := d) (q := q) hc ok r hf hn hd
    exact ⟨c1,fp1,h1,vs,rfl,h3,h2⟩
  | undef => exact r.elim
  | tup _ => exact r.elim
  | non => exact r.elim
  | bx cs =>
    obtain ⟨c1,fp1,h1,h2,h3⟩ := impo1_ok (n := n) (d := d) (q := q) (.inr ⟨cs,rfl⟩) ok r hf hn
    exact ⟨c1,fp1,h1,h2⟩
  | sl u k xs =>
    obtain ⟨c1,fp1,h1,h2,h3⟩ := impo1_ok (n := n) (d := d) (q := q) (.inl rfl) ok r hf hn
    refine ⟨c1,fp1,h1, ?_⟩
    cases u <;> exact h2
  | _ =>
    obtain ⟨c1,fp1,h1,h2,h3⟩ := impo1_ok (n := n) (d := d) (q := q) (.inl rfl) ok r hf hn
    exact ⟨c1,fp1,h1,h2⟩
theorem RX_mono {x : PV} {v : Value} (ha : Adv c c' S S') (r : RX c S (hp w) x v f) : RX c' S' (hp w) x v f := by
  cases x with
  | bx cs =>
    obtain ⟨g,cur,e,h0,h1,h2,h3,h4,h5⟩ := r
    exact ⟨g,cur,e,h0,h1,h2,h3,Rs.adv ha _ _ _ (fun _ _ => rfl) h4,h5⟩
  | agg cs => obtain ⟨vs,e,r⟩ := r; exact ⟨vs,e,R_mono ha r⟩
  | undef => exact r.elim
  | _ => exact R_mono (f := f) ha r
theorem RXs_mono (ha : Adv c c' S S') : ∀ {xs : List PV} {vs : List Value} {f : List Nat},RXs c S (hp w) xs vs f → RXs c' S' (hp w) xs vs f
  | [],_,_,r => r
  | _ :: _,_,_,⟨v,ws,f1,f2,h1,h2,h3,h4⟩ => ⟨v,ws,f1,f2,h1,h2,RX_mono ha h3,RXs_mono ha h4⟩
theorem impoEs_ok {n d : Nat} : ∀ {xs : List PV} {q : Nat} {vs : List Value} {c : Ctx} {S : Sto} {fp : Id → List Nat} {f : List Nat},StOK c S (hp w) fp → RXs c S (hp w) xs vs f → Free c S fp f →
    (∀ y ∈ (impoEs n d xs q).2.2,S y.1 = none) → nodupId (impoEs n d xs q).2.2 = true →
    ∃ c' fp',Added c S w fp f c' (upds S (impoEs n d xs q).2.2) fp' ∧ RV1s c' (upds S (impoEs n d xs q).2.2) (hp w) (impoEs n d xs q).1 vs
  | [],q,vs,c,S,fp,f,ok,r,_,_,_ => by
    obtain ⟨rfl,rfl⟩ := r
    exact ⟨c,fp,Added.nil ok,rfl⟩
  | x :: xs,q,vs,c,S,fp,f,ok,r,hf,hn,hd => by
    obtain ⟨v,v2,f1,f2,rfl,rfl,r1,r2⟩ := r
    simp only [impoEs] at hn hd ⊢
    obtain ⟨c1,fp1,ha,hr⟩ := impoE_ok (n := n) (d := d) (q := q) ok r1 hf.left (fun y hy => hn y (List.mem_append_left _ hy)) (nodupId_append hd).1
    obtain ⟨c2,fp2,hb,hrs⟩ := impoEs_ok (n := n) (d := d) (q := (impoE n d x q).2.1) ha.ok (RXs_mono ha.adv r2) (ha.free hf) (fun y hy => by
      rw [upds_fresh (nodupId_ne hd y hy)]; exact hn y (List.mem_append_right _ hy)) (nodupId_append hd).2.1
    rw [upds_append]
    exact ⟨c2,fp2,ha.trans hb,v,v2,rfl,hr.adv hb.adv,hrs⟩
theorem impo_E {n d : Nat} {x : PV} (h : ∀ ps,x ≠ .tup ps) : impo n d x 0 = impoE n d x 0 := by
  cases x <;> first | rfl | exact absurd rfl (h _)
theorem impoE_nt {n d q : Nat} {x : PV} (h : ∀ ps,x ≠ .tup ps) : ∀ qs,(impoE n d x q).1 ≠ .tup qs := by
  intro qs
  cases x with
  | tup ps => exact absurd rfl (h ps)
  | sl u k xs => cases u <;> (intro e; cases e)
  | _ => intro e; cases e
theorem Ret_RX {x : PV} {v : Value} (h : ∀ ps,x ≠ .tup ps) (r : Ret c S (hp w) x v f) : RX c S (hp w) x v f := by
  cases x <;> first | exact r | exact absurd rfl (h _)
theorem impo_ok {n d : Nat} {x : PV} {v : Value} (ok : StOK c S (hp w) fp) (r : Ret c S (hp w) x v f) (hf : Free c S fp f) (hn : ∀ y ∈ (impo n d x 0).2.2,S y.1 = none) (hd : nodupId (impo n d x 0).2.2 = true) :
    ∃ c' fp',Added c S w fp f c' (upds S (impo n d x 0).2.2) fp' ∧ RVal c' (upds S (impo n d x 0).2.2) (hp w) (impo n d x 0).1 v := by
  by_cases ht : ∃ ps,x = .tup ps
  · obtain ⟨ps,rfl⟩ := ht
    obtain ⟨vs,rfl,r⟩ := r
    obtain ⟨c1,fp1,h1,h2⟩ := impoEs_ok (n := n) (d := d) (q := 0) ok r hf hn hd
    exact ⟨c1,fp1,h1,vs,rfl,h2⟩
  · have ht' : ∀ ps,x ≠ .tup ps := fun ps e => ht ⟨ps,e⟩
    rw [impo_E ht'] at hn hd ⊢
    obtain ⟨c1,fp1,h1,h2⟩ := impoE_ok (n := n) (d := d) (q := 0) ok (Ret_RX ht' r) hf hn hd
    exact ⟨c1,fp1,h1,RV1_RVal h2 (impoE_nt ht')⟩
end
end Go.Am
end
section
/- One step of a region. -/
set_option linter.unusedSimpArgs false
set_option linter.unusedVariables false
namespace Go.Am
open Go.RowKit
theorem packs_ws {mv S xs ys ws} (e : packs mv S xs = some (ys,ws)) : ∀ z ∈ ws,∃ ob,S z.1 = some ob := by
  have e' : packE mv S (.agg xs) = some (.agg ys,ws) := by simp only [packE,e]
  intro z hz
  obtain ⟨k,zs,h⟩ := packE_ws e' z hz
  exact ⟨_,h⟩
theorem packEs_ws {mv S} : ∀ {xs ys ws},packEs mv S xs = some (ys,ws) → ∀ z ∈ ws,∃ ob,S z.1 = some ob
  | [],_,_,e,z,hz => by simp only [packEs,Option.some.injEq,Prod.mk.injEq] at e; rw [← e.2] at hz; cases hz
  | x :: xs,_,_,e,z,hz => by
    simp only [packEs] at e
    split at e
    · rename_i y w1 ys2 w2 h1 h2
      simp only [Option.some.injEq,Prod.mk.injEq] at e
      rw [← e.2] at hz
      rcases List.mem_append.1 hz with h | h
      · obtain ⟨k,zs,h⟩ := packE_ws h1 z h; exact ⟨_,h⟩
      · exact packEs_ws h2 z h
    · cases e
def WsOK (S : Sto) (n d : Nat) (ws : List (Id × OB)) : Prop := ∀ z ∈ ws,(∃ ob,S z.1 = some ob) ∨ z.1 = (n,d)
theorem WsOK.nil {S n d} : WsOK S n d [] := fun z hz => by cases hz
theorem WsOK.new {S n d} {ob : OB} : WsOK S n d [((n,d),ob)] := fun z hz => by simp only [List.mem_singleton] at hz; subst hz; exact .inr rfl
theorem WsOK.at {S n d} {id : Id} {ob ob' : OB} (h : S id = some ob') : WsOK S n d [(id,ob)] := fun z hz => by simp only [List.mem_singleton] at hz; subst hz; exact .inl ⟨_,h⟩
theorem WsOK.app {S n d a b} (h : WsOK S n d a) (k : WsOK S n d b) : WsOK S n d (a ++ b) := fun z hz => (List.mem_append.1 hz).elim (h z) (k z)
theorem WsOK.old {S n d ws} (h : ∀ z ∈ ws,∃ ob,S z.1 = some ob) : WsOK S n d ws := fun z hz => .inl (h z hz)
set_option maxHeartbeats 1000000 in
theorem core1_ws {n d : Nat} {S : Sto} {k : K} {ps : List PV} {y : PV} {ws : List (Id × OB)} (e : core1 n d S k ps = some (y,ws)) : WsOK S n d ws := by
  unfold core1 at e
  split at e <;> (repeat' split at e) <;> first
    | (cases e; done)
    | (simp only [Option.some.injEq,Prod.mk.injEq] at e
       obtain ⟨_,rfl⟩ := e
       first
         | exact WsOK.nil
         | exact WsOK.new
         | exact WsOK.at (by assumption)
         | exact WsOK.app (WsOK.at (by assumption)) WsOK.new
         | exact WsOK.app (WsOK.old (fun z hz => let ⟨k,zs,h⟩ := packE_ws (by assumption) z hz; ⟨_,h⟩)) (WsOK.at (by assumption))
         | exact WsOK.app (WsOK.old (packEs_ws (by assumption))) WsOK.new
         | exact WsOK.app (WsOK.old (packs_ws (by assumption))) (WsOK.at (by assumption))
         | (refine WsOK.app ?_ (WsOK.at (by assumption))
            rcases srcOf_ws (by assumption) with rfl | ⟨_,_,_,rfl,h⟩
            · exact WsOK.nil
            · exact WsOK.at h)
         | (refine WsOK.app ?_ WsOK.new
            rcases srcOf_ws (by assumption) with rfl | ⟨_,_,_,rfl,h⟩
            · exact WsOK.nil
            · exact WsOK.at h))
def gt (o : Stack) : Sto := (⟨[],[],o⟩ : St).get
def Lv (n : Nat) (S : Sto) : Prop := ∀ i ob,S i = some ob → i.1 < n
theorem gt_lv (o : Stack) : Lv o.length (gt o) := by
  intro i ob h
  have h1 := get_lvl h
  rcases Nat.lt_or_eq_of_le h1 with h2 | h2
  · exact h2
  · simp only [gt,St.get] at h
    rw [if_pos h2] at h
    simp [getO] at h
theorem gt_get (s : St) : gt s.o = hideS s.get s.o.length := by
  funext i
  simp only [gt,hideS,St.get]
  by_cases h : i.1 = s.o.length
  · simp [h,getO]
  · by_cases h2 : i.1 < s.o.length
    · simp [h,h2]
    · simp only [h,h2,if_false]
      have : s.o[i.1]? = none := List.getElem?_eq_none (by omega)
      rw [this]; rfl
theorem sets_o_length : ∀ (ws : List (Id × OB)) (s : St),(s.sets ws).o.length = s.o.length
  | [],_ => rfl
  | (id,ob) :: r,s => by simp only [St.sets]; rw [sets_o_length r,set_o_length]
theorem put_o (s : St) (d : Option Nat) (v : PV) : (s.put d v).o = s.o := by cases d <;> rfl
def Inv (N : Nat) (c0 : Ctx) (S0 : Sto) (w0 : World) (n : Nat) (s : St) (a : Act) (w : World) : Prop :=
  ∃ c fp,Sim N c fp s a w ∧ Adv c0 c S0 s.get ∧ Grew w0 w ∧ (∀ id ob,s.get id = some ob → id.1 = n ∨ ∃ ob',S0 id = some ob') ∧ s.o.length = n
section
variable {P : Program} {N : Nat} {c0 c c' : Ctx} {S0 : Sto} {w0 w w' : World} {n : Nat} {s : St} {a : Act} {fp fp' : Id → List Nat}
theorem put_tmps {d : Nat} (hd : d < N) (hsz : N ≤ a.tmps.size) (v : Value) (t : Nat) : (a.put (some d) v).tmps.getD t undef = if d = t then v else a.tmps.getD t undef := by
  simp only [Act.put]
  by_cases h : d = t
  · subst h
    have : d < a.tmps.size := by omega
    simp [Array.getElem?_setIfInBounds,this]
  · simp [Array.getElem?_setIfInBounds_ne h,h]
theorem Sim.put {d : Option Nat} {y : PV} {v : Value} (sim : Sim N c fp s a w) (hd : ∀ t,d = some t → t < N) (r : RVal c s.get (hp w) y v) : Sim N c fp (s.put d y) (a.put d v) w := by
  cases d with
  | none => exact sim
  | some d =>
    refine ⟨fun t => ?_,by rw [get_put]; exact sim.st,sim.df,by simpa [Act.put] using sim.sz⟩
    rw [get_put,put_tmps (hd d rfl) sim.sz]
    simp only [St.put,getR]
    by_cases h : d = t
    · simp only [h,if_true]; exact r
    · simp only [h,if_false]; exact sim.rg t
theorem Sim.move {ws : List (Id × OB)} (sim : Sim N c fp s a w) (hl : ∀ x ∈ ws,x.1.1 ≤ s.o.length) (ok : StOK c' (upds s.get ws) (hp w') fp') (ha : Adv c c' s.get (upds s.get ws)) : Sim N c' fp' (s.sets ws) a w' := by
  have hg := get_sets ws s hl
  refine ⟨fun t => ?_,by rw [hg]; exact ok,sim.df,sim.sz⟩
  rw [hg,sets_r]
  exact (sim.rg t).adv ha
theorem ws_le {d : Nat} {ws : List (Id × OB)} (h : WsOK s.get s.o.length d ws) : ∀ x ∈ ws,x.1.1 ≤ s.o.length := by
  intro x hx
  rcases h x hx with ⟨ob,h⟩ | h
  · exact get_lvl h
  · rw [h]; exact Nat.le_refl _
theorem Inv.step {d : Option Nat} {ws : List (Id × OB)} {y : PV} {v : Value} (inv : Inv N c0 S0 w0 n s a w) (hd : ∀ t,d = some t → t < N) (hws : WsOK s.get s.o.length (d.getD 999) ws)
    (hy : ∀ c fp,Sim N c fp s a w → ∃ c' fp',StOK c' (upds s.get ws) (hp w') fp' ∧ Adv c c' s.get (upds s.get ws) ∧ RVal c' (upds s.get ws) (hp w') y v ∧ Grew w w') : Inv N c0 S0 w0 n ((s.sets ws).put d y) (a.put d v) w' := by
  obtain ⟨c,fp,sim,ha,hg,hdom,hn⟩ := inv
  obtain ⟨c',fp',h1,h2,h3,h4⟩ := hy c fp sim
  have hl := ws_le hws
  have hgs := get_sets ws s hl
  refine ⟨c',fp',(sim.move hl h1 h2).put hd (by rw [hgs]; exact h3), ?_,hg.trans h4, ?_,by rw [put_o,sets_o_length]; exact hn⟩
  · rw [get_put,hgs]; exact ha.trans h2
  · rw [get_put,hgs]
    intro id ob hob
    have key : ∀ (ws : List (Id × OB)) (S : Sto),upds S ws id = some ob → (∃ x ∈ ws,x.1 = id) ∨ S id = some ob := by
      intro ws
      induction ws with
      | nil => intro S h; exact .inr h
      | cons p r ih =>
        obtain ⟨i,o⟩ := p
        intro S h
        simp only [upds] at h
        rcases ih _ h with ⟨x,hx,e⟩ | h
        · exact .inl ⟨x,List.mem_cons_of_mem _ hx,e⟩
        · by_cases hi : id = i
          · exact .inl ⟨_,List.mem_cons_self,hi.symm⟩
          · exact .inr (by simpa [upd,hi] using h)
    rcases key ws _ hob with ⟨x,hx,rfl⟩ | h
    · rcases hws x hx with ⟨ob',h⟩ | h
      · exact hdom x.1 ob' h
      · exact .inl (by rw [h]; exact hn)
    · exact hdom id ob h
end
def isChk : K → Bool | .chk _ => true | _ => false
def isCall : K → Bool | .call _ _ => true | _ => false
theorem core_core1 {n d : Nat} {g : Id → Option OB} {k : K} {ps : List PV} (h : isChk k = false) : core n d g k ps = core1 n d g k ps := by
  unfold core
  split
  · simp [isChk] at h
  · rfl
def okG (ops : Array Oper) : Option (Nat × Bool) → Option (Nat × Bool) → Bool
  | none,none => true
  | some (j,b),some (g,b') => (ops[g]?).bind (·.dst) == some j && b == b'
  | _,_ => false
noncomputable def stepGo (call : CallF) (s : St) (a : AI) : Option St := match a.op with
  | .call byref leaky => stepCall call s a.d byref leaky (a.xs.map s.ev)
  | op => match core s.o.length (a.d.getD 999) s.get op (a.xs.map s.ev) with
    | some (v,ws) => some ((s.sets ws).put a.d v)
    | none => none
theorem stepI_eq (call : CallF) (s : St) (a : AI) : stepI call s a = match a.g with
  | none => stepGo call s a
  | some (j,w) => match getR s.r j with | .sc (.bool b) => if b = w then stepGo call s a else some (s.put a.d .non) | .non => some (s.put a.d .non) | _ => none := by
  unfold stepI stepGo
  rfl
section
variable {P : Program} {N : Nat} {c0 c c' : Ctx} {S0 : Sto} {w0 w w' : World} {n : Nat} {s : St} {a : Act} {fp fp' : Id → List Nat}
theorem guard_ok {call : CallF} {ops : Array Oper} {o : Oper} {ai : AI} {s' : St} (inv : Inv N c0 S0 w0 n s a w) (hg : okG ops ai.g o.guard = true) (hd : ai.d = o.dst) (hdN : ∀ t,ai.d = some t → t < N) (e : stepI call s ai = some s') :
    (Region.wanted o (yielded ops a.tmps) = true ∧ stepGo call s ai = some s') ∨ (Region.wanted o (yielded ops a.tmps) = false ∧ Inv N c0 S0 w0 n s' (a.put o.dst undef) w) := by
  rw [stepI_eq] at e
  unfold okG at hg
  split at hg
  · rename_i h1 h2
    rw [h1] at e
    exact .inl ⟨by simp [Region.wanted,h2],e⟩
  · rename_i j b g b' h1 h2
    simp only [Bool.and_eq_true] at hg
    obtain ⟨hg1,hg2⟩ := hg
    have hg1 := eq_of_beq hg1
    obtain rfl := eq_of_beq hg2
    rw [h1] at e
    simp only at e
    obtain ⟨c,fp,sim,hrest⟩ := id inv
    have hr := sim.rg j
    have skip : Inv N c0 S0 w0 n (s.put ai.d .non) (a.put o.dst undef) w := by
      rw [← hd]
      have := inv.step (d := ai.d) (ws := []) (y := .non) (v := undef) (w' := w) hdN WsOK.nil (fun c fp sim => ⟨c,fp,sim.st,Adv.refl _ _,rfl,Grew.refl _⟩)
      exact this
    split at e
    · rename_i bb hb
      rw [hb] at hr
      have hv := sc_eq hr
      have hy : yielded ops a.tmps g = some bb := by
        unfold yielded
        rw [hg1]
        simp only [Option.bind_some]
        cases ht : a.tmps[j]? with
        | none => simp [ht,undef] at hv
        | some u =>
          have : u = .bool bb := by simpa [ht] using hv
          rw [this]
      split at e
      · rename_i hbw
        subst hbw
        exact .inl ⟨by simp [Region.wanted,h2,hy],e⟩
      · rename_i hbw
        simp only [Option.some.injEq] at e
        subst e
        exact .inr ⟨by simp [Region.wanted,h2,hy,hbw],skip⟩
    · rename_i hb
      rw [hb] at hr
      simp only [Option.some.injEq] at e
      subst e
      have hv : a.tmps.getD j undef = undef := hr
      have hy : yielded ops a.tmps g = none := by
        unfold yielded
        rw [hg1]
        simp only [Option.bind_some]
        cases ht : a.tmps[j]? with
        | none => rfl
        | some u =>
          have : u = undef := by simpa [ht] using hv
          rw [this]; rfl
      exact .inr ⟨by simp [Region.wanted,h2,hy],skip⟩
    · cases e
  · cases hg
theorem go_ok {call : CallF} {o : Oper} {ai : AI} {s' : St} {K : Act → World → Prop} {Q : Exit → Act → World → Prop} (inv : Inv N c0 S0 w0 n s a w) (hlv : Lv n S0) (hk : okOp P ai.op o.op = true) (hc : isChk ai.op = false) (hcl : isCall ai.op = false) (hx : opdsOK ai.xs (opArgs o.op) = true)
    (hd : ai.d = o.dst) (hdN : ∀ t,ai.d = some t → t < N) (e : stepGo call s ai = some s') (hK : ∀ a' w',Inv N c0 S0 w0 n s' a' w' → K a' w') : o.wp P a w K Q := by
  have e' : ∃ v ws,core1 s.o.length (ai.d.getD 999) s.get ai.op (ai.xs.map s.ev) = some (v,ws) ∧ s' = (s.sets ws).put ai.d v := by
    unfold stepGo at e
    split at e
    · rename_i h; rw [h] at hcl; simp [isCall] at hcl
    · rw [core_core1 hc] at e
      split at e
      · rename_i v ws h
        simp only [Option.some.injEq] at e
        exact ⟨v,ws,h,e.symm⟩
      · cases e
  obtain ⟨y,ws,h1,rfl⟩ := e'
  have hws := core1_ws h1
  obtain ⟨c,fp,sim,ha,hg,hdom,hn⟩ := id inv
  have hlv' : ∀ i ob,s.get i = some ob → i.1 ≤ s.o.length := fun i ob h => get_lvl h
  obtain ⟨nx,v,w',c',fp',hr,hnx,_,_,_,_⟩ := op_sound (P := P) (fun _ => rfl) hlv' sim.st hk (opds_RVals sim hx) h1
  -- the value and the world do not depend on the context
  have hin : Inv N c0 S0 w0 n ((s.sets ws).put ai.d y) (a.put ai.d v) w' := by
    refine inv.step hdN hws (fun c2 fp2 sim2 => ?_)
    obtain ⟨nx2,v2,w2,c3,fp3,hr2,hnx2,k1,k2,k3,k4⟩ := op_sound (P := P) (fun _ => rfl) hlv' sim2.st hk (opds_RVals sim2 hx) h1
    rw [hr] at hr2
    simp only [Result.ok.injEq] at hr2
    obtain ⟨rfl,rfl⟩ := hr2
    have hvv : v = v2 := by
      rcases hnx with rfl | ⟨rfl,rfl⟩ <;> rcases hnx2 with h | ⟨h,h'⟩
      · injection h
      · cases h
      · cases h
      · exact h'.symm
    subst hvv
    exact ⟨c3,fp3,k1,k2,k3,k4⟩
  unfold Oper.wp
  rw [hr]
  rw [hd] at hin
  rcases hnx with rfl | ⟨rfl,rfl⟩
  · exact hK _ _ (by rw [← hd] at hin ⊢; exact hin)
  · exact hK _ _ (by rw [← hd] at hin ⊢; exact hin)
end
end Go.Am
end
section
/- A call as the caller sees it. -/
set_option linter.unusedSimpArgs false
set_option linter.unusedVariables false
namespace Go.Am
open Go.RowKit
section
variable {c c' : Ctx} {S S' : Sto} {h h' : Hp} {m : Nat}
mutual
theorem R.lv (hl : Lv m S) : ∀ (x : PV) (vs : List Value) (fp : List Nat),R c S h x vs fp → inLv m x = true
  | .undef,_,_,_ | .sc _,_,_,_ | .nils,_,_,_ | .sl _ _ _,_,_,_ | .iref _ _,_,_,_ | .non,_,_,_ => rfl
  | .own id k,_,_,r => by
    obtain ⟨_,v,_,_,h⟩ := r
    unfold OwnOK at h
    cases hs : S id with
    | none => rw [hs] at h; exact h.elim
    | some ob => simpa [inLv] using hl id ob hs
  | .ref id k i j,_,_,r => by
    obtain ⟨_,v,_,_,h⟩ := r
    unfold RefOK at h
    cases hs : S id with
    | none => rw [hs] at h; exact h.elim
    | some ob => simpa [inLv] using hl id ob hs
  | .sub id k i,_,_,r => by
    obtain ⟨_,v,_,_,h⟩ := r
    unfold SubOK at h
    cases hs : S id with
    | none => rw [hs] at h; exact h.elim
    | some ob => simpa [inLv] using hl id ob hs
  | .mp id,_,_,r => by
    obtain ⟨_,v,_,_,h⟩ := r
    unfold MapOK at h
    cases hs : S id with
    | none => rw [hs] at h; exact h.elim
    | some ob => simpa [inLv] using hl id ob hs
  | .clo f caps,_,_,r => by
    obtain ⟨_,ws,_,_,h⟩ := r
    simp only [inLv]
    exact Rs.lv hl caps ws [] h
  | .agg cs,vs,fp,r => by
    simp only [inLv]
    exact Rs.lv hl cs vs fp r.2
  | .tup _,_,_,r => r.elim
  | .bx _,_,_,r => r.elim
theorem Rs.lv (hl : Lv m S) : ∀ (xs : List PV) (vs : List Value) (fp : List Nat),Rs c S h xs vs fp → inLvs m xs = true
  | [],_,_,_ => rfl
  | x :: xs,_,_,r => by
    obtain ⟨v1,v2,f1,f2,_,_,r1,r2⟩ := r
    simp only [inLvs,Bool.and_eq_true]
    exact ⟨R.lv hl x v1 f1 r1,Rs.lv hl xs v2 f2 r2⟩
end
theorem RX.vis {x : PV} {v : Value} {f : List Nat} (hl : Lv m S) (hF : ∀ b o,c.F b = some o → c'.F b = some o) (hS : ∀ id,id.1 < m → S' id = S id ∧ c'.L id = c.L id) (r : RX c S h x v f) : RX c' S' h x v f := by
  cases x with
  | bx cs =>
    obtain ⟨g,cur,e,h0,h1,h2,h3,h4,h5⟩ := r
    exact ⟨g,cur,e,h0,h1,h2,h3,Rs.vis hF hS _ _ _ (Rs.lv hl _ _ _ h4) (fun _ _ => rfl) h4,h5⟩
  | agg cs => obtain ⟨vs,e,r⟩ := r; exact ⟨vs,e,R.vis hF hS _ _ _ (R.lv hl _ _ _ r) (fun _ _ => rfl) r⟩
  | undef => exact r.elim
  | tup _ => exact r.elim
  | non => exact r.elim
  | _ => exact R.vis hF hS _ _ f (R.lv (c := c) (h := h) hl _ _ f r) (fun _ _ => rfl) r
theorem RXs.vis (hl : Lv m S) (hF : ∀ b o,c.F b = some o → c'.F b = some o) (hS : ∀ id,id.1 < m → S' id = S id ∧ c'.L id = c.L id) : ∀ {xs : List PV} {vs : List Value} {f : List Nat},RXs c S h xs vs f → RXs c' S' h xs vs f
  | [],_,_,r => r
  | _ :: _,_,_,⟨v,ws,f1,f2,h1,h2,h3,h4⟩ => ⟨v,ws,f1,f2,h1,h2,RX.vis hl hF hS h3,RXs.vis hl hF hS h4⟩
theorem Ret.vis {x : PV} {v : Value} {f : List Nat} (hl : Lv m S) (hF : ∀ b o,c.F b = some o → c'.F b = some o) (hS : ∀ id,id.1 < m → S' id = S id ∧ c'.L id = c.L id) (r : Ret c S h x v f) : Ret c' S' h x v f := by
  by_cases ht : ∃ ps,x = .tup ps
  · obtain ⟨ps,rfl⟩ := ht
    obtain ⟨vs,e,r⟩ := r
    exact ⟨vs,e,RXs.vis hl hF hS r⟩
  · have ht' : ∀ ps,x ≠ .tup ps := fun ps e => ht ⟨ps,e⟩
    have r' : RX c S h x v f := by cases x <;> first | exact r | exact absurd rfl (ht' _)
    have := RX.vis hl hF hS r'
    cases x <;> first | exact this | exact absurd rfl (ht' _)
end
def Did (c : Ctx) (S : Sto) (w : World) (S' : Sto) (r : PV) : Ending → World → Prop := fun e w' =>
  ∃ v c' fp' f',e = .returned v ∧ Grew w w' ∧ StOK c' S' (hp w') fp' ∧ Adv c c' S S' ∧ Free c' S' fp' f' ∧ Ret c' S' (hp w') r v f'
def isGo (P : Program) (f : Nat) : Prop := ∃ fn,P.funcs[f]? = some fn ∧ fn.body.isSome = true ∧ fn.name ≠ "runtime.NumGoroutine"
def Shape (o o' : Stack) : Prop := o'.length = o.length ∧ ∀ id ob,gt o' id = some ob → ∃ ob',gt o id = some ob'
def Good (P : Program) (f : Nat) (args : List PV) (o : Stack) (r : PV) (o' : Stack) : Prop :=
  isGo P f ∧ ∀ c fp w vals,StOK c (gt o) (hp w) fp → RVals c (gt o) (hp w) args vals → Calls P f vals.toArray w (fun e w' => Shape o o' ∧ Did c (gt o) w (gt o') r e w')
def SoundC (P : Program) (call : CallF) : Prop := ∀ f args o r o',call f args o = some (r,o') → Good P f args o r o'
section
variable {P : Program} {c c' : Ctx} {S S' : Sto} {w w' : World} {fp fp' : Id → List Nat} {m : Nat}
theorem back_free {f : List Nat} (ok : StOK c S (hp w) fp) (ha : Adv (hideC c S fp m (hp w)) c' (hideS S m) S') (hf : Free c' S' fp' f) : Free (backC c c' m) (backS S S' m) (backF fp fp' m) f := by
  have hX : c'.X = (hideC c S fp m (hp w)).X := ha.X
  refine ⟨hf.1,fun b hb => ?_⟩
  obtain ⟨hu,hn⟩ := hf.2 b hb
  have hx := hu.2
  rw [hX] at hx
  simp only [hideC] at hx
  have key : ¬ ∃ id ob,m ≤ id.1 ∧ S id = some ob ∧ b ∈ fp id := by
    intro h
    rw [if_pos h] at hx
    obtain ⟨id,ob,_,hs,hb'⟩ := h
    have := ok.lt hs hb'
    simp only [hp,Array.getElem?_eq_none_iff] at hx
    omega
  rw [if_neg key] at hx
  refine ⟨⟨hu.1,hx⟩,fun id ob hs hb' => ?_⟩
  by_cases hm : id.1 < m <;> simp only [backS,backF,hm,if_true,if_false] at hs hb'
  · exact hn id ob hs hb'
  · exact key ⟨id,ob,by omega,hs,hb'⟩
theorem view_ok {call : CallF} {f : Nat} {args : List PV} {vals : List Value} {oi o' : Stack} {r : PV} (ok : StOK c S (hp w) fp) (hoi : gt oi = hideS S m) (hargs : inLvs m args = true) (hr : RVals c S (hp w) args vals) (hg : Good P f args oi r o') :
    Calls P f vals.toArray w (fun e w' => Shape oi o' ∧ Did c S w (backS S (gt o') m) r e w') := by
  obtain ⟨_,h3⟩ := hg
  have hok := hide_ok (m := m) ok
  have hargs' : RVals (hideC c S fp m (hp w)) (hideS S m) (hp w) args vals := RVals.vis (c := c) (c' := hideC c S fp m (hp w)) (S := S) (S' := hideS S m) (w := w) (fun _ _ h => h) (fun id hid => ⟨by simp [hideS,hid],rfl⟩) hargs hr
  refine Calls.mono (h3 (hideC c S fp m (hp w)) fp w vals (by rw [hoi]; exact hok) (by rw [hoi]; exact hargs')) ?_
  rintro e w' ⟨hsh,v,c',fp',f',rfl,hgr,hok',hadv,hfree,hret⟩
  have hl : Lv m (gt o') := fun id ob h => by
    obtain ⟨ob',h'⟩ := hsh.2 id ob h
    rw [hoi] at h'
    exact (hideS_some h').1
  rw [hoi] at hadv
  obtain ⟨k1,k2⟩ := back_ok ok hok' hadv
  exact ⟨hsh,v,backC c c' m,backF fp fp' m,f',rfl,hgr,k1,k2,back_free ok hadv hfree,Ret.vis (c := c') (S := gt o') hl (fun _ _ h => h) (fun id hid => ⟨by simp [backS,hid],by simp [backC,hid]⟩) hret⟩
theorem gt_nil : gt [] = fun _ => none := by
  funext i
  simp only [gt,St.get,List.length_nil]
  by_cases h : i.1 = 0
  · simp [h,getO]
  · simp [h]
theorem hideS_zero : hideS S 0 = fun _ => none := by funext i; simp [hideS]
theorem gt_snoc (r : Regs) (o : Stack) (l : Objs) : gt (o ++ [l]) = (⟨r,l,o⟩ : St).get := by
  funext i
  simp only [gt,St.get,List.length_append,List.length_cons,List.length_nil]
  by_cases h : i.1 = o.length
  · have : ¬ i.1 = o.length + 1 := by omega
    simp [h,getO]
  · by_cases h2 : i.1 = o.length + 1
    · have : o[i.1]? = none := List.getElem?_eq_none (by omega)
      simp [h2,getO]
    · rcases Nat.lt_or_ge i.1 o.length with h3 | h3
      · simp [h,h2,List.getElem?_append_left h3]
      · have e1 : o[i.1]? = none := List.getElem?_eq_none (by omega)
        have e2 : (o ++ [l])[i.1]? = none := List.getElem?_eq_none (by simp; omega)
        simp only [h,h2,if_false,e1,e2]
theorem snoc_of_length {α : Type} {o : List α} {n : Nat} (d : α) (h : o.length = n + 1) : o.dropLast ++ [o.getLastD d] = o := by
  rcases List.eq_nil_or_concat o with rfl | ⟨l,a,rfl⟩
  · simp at h
  · simp
theorem callBy_ok {call : CallF} (hs : SoundC P call) {s s1 : St} {f : Nat} {args : List PV} {vals : List Value} {r : PV} (ok : StOK c s.get (hp w) fp) (hr : RVals c s.get (hp w) args vals) (e : callBy call s.o.length s f args = some (r,s1)) :
    s1.r = s.r ∧ (noRefs args = true → s1 = s) ∧ isGo P f ∧ Calls P f vals.toArray w (fun e w' => (s1.o.length = s.o.length ∧ ∀ id ob,s1.get id = some ob → ∃ ob',s.get id = some ob') ∧ Did c s.get w s1.get r e w') := by
  have hup : upTos s.o.length args = true := by
    have key : ∀ {xs : List PV} {vs : List Value},RVals c s.get (hp w) xs vs → upTos s.o.length xs = true := by
      intro xs
      induction xs with
      | nil => intro vs _; rfl
      | cons x xs ih =>
        rintro vs ⟨v,ws,rfl,r1,r2⟩
        simp only [upTos,Bool.and_eq_true]
        refine ⟨?_,ih r2⟩
        have hlv : ∀ i ob,s.get i = some ob → i.1 ≤ s.o.length := fun i ob h => get_lvl h
        have h1 : ∀ {y : PV} {u : Value},RV1 c s.get (hp w) y u → upTo s.o.length y = true := by
          intro y u r
          cases y with
          | undef => rfl
          | non => rfl
          | agg cs => obtain ⟨vs,_,r⟩ := r; exact R.up hlv _ _ _ r
          | tup _ => exact (show False from r).elim
          | bx _ => exact (show False from r).elim
          | _ => exact R.up (c := c) (h := hp w) hlv _ _ _ r
        cases x with
        | tup ps =>
          obtain ⟨vs,_,r⟩ := r1
          have h2 : ∀ {ys : List PV} {us : List Value},RV1s c s.get (hp w) ys us → upTos s.o.length ys = true := by
            intro ys
            induction ys with
            | nil => intro us _; rfl
            | cons y ys ih => rintro us ⟨u,us',rfl,q1,q2⟩; simp only [upTos,Bool.and_eq_true]; exact ⟨h1 q1,ih q2⟩
          exact h2 r
        | _ => exact h1 (u := v) r1
    exact key hr
  unfold callBy at e
  split at e
  · rename_i hn
    split at e
    · rename_i r' o' hc
      simp only [Option.some.injEq,Prod.mk.injEq] at e
      obtain ⟨rfl,rfl⟩ := e
      have hg := hs _ _ _ _ _ hc
      refine ⟨rfl,fun _ => rfl,hg.1, ?_⟩
      refine Calls.mono (view_ok (call := call) (m := 0) ok (by rw [gt_nil,hideS_zero]) (inLvs_noRef hn) hr hg) ?_
      rintro e w' ⟨_,hd⟩
      have hb : backS s.get (gt o') 0 = s.get := by funext i; simp [backS]
      rw [hb] at hd
      exact ⟨⟨rfl,fun id ob h => ⟨ob,h⟩⟩,hd⟩
    · cases e
  · rename_i hn
    split at e
    · -- with this frame's objects
      split at e
      · rename_i r' o' hc
        simp only [Option.some.injEq,Prod.mk.injEq] at e
        obtain ⟨rfl,rfl⟩ := e
        have hg := hs _ _ _ _ _ hc
        have hgt : gt (s.o ++ [s.l]) = s.get := gt_snoc s.r s.o s.l
        have hhide : hideS s.get (s.o.length + 1) = s.get := by
          funext i
          unfold hideS
          split
          · rfl
          · rename_i h
            cases hi : s.get i with
            | none => rfl
            | some ob => have := get_lvl hi; omega
        refine ⟨rfl,fun h => absurd h hn,hg.1, ?_⟩
        refine Calls.mono (view_ok (call := call) (m := s.o.length + 1) ok (by rw [hgt,hhide]) (inLvs_up hup) hr hg) ?_
        rintro e w' ⟨hsh,hd⟩
        have hl : o'.length = s.o.length + 1 := by have := hsh.1; simpa using this
        have hgt' : gt o' = ({ s with l := o'.getLastD [],o := o'.dropLast } : St).get := by
          have := gt_snoc s.r o'.dropLast (o'.getLastD [])
          rw [snoc_of_length [] hl] at this
          exact this
        have hb : backS s.get (gt o') (s.o.length + 1) = gt o' := by
          funext i
          unfold backS
          split
          · rfl
          · rename_i h
            cases hi : s.get i with
            | some ob => have := get_lvl hi; omega
            | none => cases hi' : gt o' i with
              | none => rfl
              | some ob => have := gt_lv o' i ob hi'; omega
        rw [hb,hgt'] at hd
        refine ⟨⟨by simp [hl],fun id ob h => ?_⟩,hd⟩
        rw [← hgt'] at h
        obtain ⟨ob',h'⟩ := hsh.2 id ob h
        rw [hgt] at h'; exact ⟨ob',h'⟩
      · cases e
    · rename_i hat
      split at e
      · rename_i r' o' hc
        simp only [Option.some.injEq,Prod.mk.injEq] at e
        obtain ⟨rfl,rfl⟩ := e
        have hg := hs _ _ _ _ _ hc
        have hgt : gt (s.o ++ [[]]) = hideS s.get s.o.length := by rw [gt_snoc s.r s.o [],← gt_get]; rfl
        refine ⟨rfl,fun h => absurd h hn,hg.1, ?_⟩
        refine Calls.mono (view_ok (call := call) (m := s.o.length) ok hgt (inLvs_at hup (by simpa using hat)) hr hg) ?_
        rintro e w' ⟨hsh,hd⟩
        have hl : o'.length = s.o.length + 1 := by have := hsh.1; simpa using this
        have hb : backS s.get (gt o') s.o.length = ({ s with o := o'.dropLast } : St).get := by
          have h1 := gt_snoc s.r o'.dropLast (o'.getLastD [])
          rw [snoc_of_length [] hl] at h1
          funext i
          rw [h1]
          simp only [backS,St.get,List.length_dropLast,hl,Nat.add_sub_cancel]
          by_cases h : i.1 = s.o.length
          · simp [h]
          · by_cases h2 : i.1 < s.o.length
            · simp [h,h2]
            · simp only [h,h2,if_false]
              have e1 : s.o[i.1]? = none := List.getElem?_eq_none (by omega)
              have e2 : o'.dropLast[i.1]? = none := List.getElem?_eq_none (by simp; omega)
              rw [e1,e2]
        refine ⟨⟨by simp [hl],fun id ob h => ?_⟩,by rw [hb] at hd; exact hd⟩
        rw [← hb] at h
        unfold backS at h
        split at h
        · obtain ⟨ob',h'⟩ := hsh.2 id ob h
          rw [hgt] at h'
          exact ⟨ob',(hideS_some h').2⟩
        · exact ⟨ob,h⟩
      · cases e
end
end Go.Am
end
section
/- A call as a step of a region. -/
set_option linter.unusedSimpArgs false
set_option linter.unusedVariables false
namespace Go.Am
open Go.RowKit
section
variable {c c' : Ctx} {S S' : Sto} {h : Hp}
mutual
theorem R.noShare : ∀ (x : PV) (vs : List Value) (fp : List Nat),Am.noShare x = true → R c S h x vs fp → R c' S' h x vs fp
  | .undef,_,_,t,_ => by simp [Am.noShare] at t
  | .sc _,_,_,_,r => r
  | .nils,_,_,_,r => r
  | .sl true k xs,vs,fp,t,r => by
    simp only [Am.noShare,Bool.true_and] at t
    simp only [R] at r ⊢
    obtain ⟨t1,hk,A,cp,e,r⟩ := r
    refine ⟨t1,hk,A,cp,e, ?_⟩
    rcases r with r | ⟨g,cur,et,ws,fq,h1,h2,h3,h4,h5,h7,h8,h9⟩
    · exact .inl r
    · exact .inr ⟨g,cur,et,ws,fq,h1,h2,h3,h4,h5,Rs.noShare xs ws fq t h7,h8,h9⟩
  | .sl false k xs,_,_,t,_ => by simp [Am.noShare] at t
  | .own _ _,_,_,t,_ => by simp [Am.noShare] at t
  | .ref _ _ _ _,_,_,t,_ => by simp [Am.noShare] at t
  | .sub _ _ _,_,_,t,_ => by simp [Am.noShare] at t
  | .iref _ _,_,_,t,_ => by simp [Am.noShare] at t
  | .mp _,_,_,t,_ => by simp [Am.noShare] at t
  | .clo _ _,_,_,t,_ => by simp [Am.noShare] at t
  | .agg cs,vs,fp,t,r => by
    simp only [Am.noShare] at t
    exact ⟨r.1,Rs.noShare cs vs fp t r.2⟩
  | .tup _,_,_,_,r => r.elim
  | .bx _,_,_,_,r => r.elim
  | .non,_,_,_,r => r.elim
theorem Rs.noShare : ∀ (xs : List PV) (vs : List Value) (fp : List Nat),noShares xs = true → Rs c S h xs vs fp → Rs c' S' h xs vs fp
  | [],_,_,_,r => r
  | x :: xs,vs,fp,t,r => by
    simp only [noShares,Bool.and_eq_true] at t
    obtain ⟨v1,v2,f1,f2,h1,h2,h3,h4⟩ := r
    exact ⟨v1,v2,f1,f2,h1,h2,R.noShare x v1 f1 t.1 h3,Rs.noShare xs v2 f2 t.2 h4⟩
end
theorem RX.noShare {x : PV} {v : Value} {f : List Nat} (t : Am.noShare x = true) (r : RX c S h x v f) : RX c' S' h x v f := by
  cases x with
  | bx cs =>
    simp only [Am.noShare] at t
    obtain ⟨g,cur,e,h0,h1,h2,h3,h4,h5⟩ := r
    exact ⟨g,cur,e,h0,h1,h2,h3,Rs.noShare _ _ _ t h4,h5⟩
  | agg cs => obtain ⟨vs,e,r⟩ := r; exact ⟨vs,e,R.noShare _ _ _ t r⟩
  | undef => exact r.elim
  | tup _ => exact r.elim
  | non => exact r.elim
  | _ => exact R.noShare (c := c) (S := S) (h := h) _ _ f t r
theorem RXs.noShare : ∀ {xs : List PV} {vs : List Value} {f : List Nat},noShares xs = true → RXs c S h xs vs f → RXs c' S' h xs vs f
  | [],_,_,_,r => r
  | x :: xs,_,_,t,⟨v,ws,f1,f2,h1,h2,h3,h4⟩ => by
    simp only [noShares,Bool.and_eq_true] at t
    exact ⟨v,ws,f1,f2,h1,h2,RX.noShare t.1 h3,RXs.noShare t.2 h4⟩
theorem Ret.noShare {x : PV} {v : Value} {f : List Nat} (t : Am.noShare x = true) (r : Ret c S h x v f) : Ret c' S' h x v f := by
  by_cases ht : ∃ ps,x = .tup ps
  · obtain ⟨ps,rfl⟩ := ht
    obtain ⟨vs,e,r⟩ := r
    exact ⟨vs,e,RXs.noShare t r⟩
  · have ht' : ∀ ps,x ≠ .tup ps := fun ps e => ht ⟨ps,e⟩
    have r' : RX c S h x v f := by cases x <;> first | exact r | exact absurd rfl (ht' _)
    have := RX.noShare (c' := c') (S' := S') t r'
    cases x <;> first | exact this | exact absurd rfl (ht' _)
end
abbrev Rws := List (Id × Nat × List PV)
section
variable {P : Program} {c c' : Ctx} {S S' : Sto} {w w' : World} {fp fp' : Id → List Nat}
structure Froze (c : Ctx) (S : Sto) (w : World) (fp : Id → List Nat) (rs : Rws) (c' : Ctx) (fp' : Id → List Nat) : Prop where
  ok : StOK c' (upds S (frzs rs)) (hp w) fp'
  adv : Adv c c' S (upds S (frzs rs))
  at' : ∀ x ∈ rs,upds S (frzs rs) x.1 = some (.frz x.2.1 (fals x.2.2))
  same : ∀ id,(∀ x ∈ rs,x.1 ≠ id) → upds S (frzs rs) id = S id
  blk : ∀ id ob b,S id = some ob → b ∈ fp id → (b ∈ fp' id ∧ ∃ ob',upds S (frzs rs) id = some ob') ∨ ∃ o,c'.F b = some o ∧ hp w b = some o
theorem upd_same {id : Id} {ob : OB} (h : S id = some ob) : upd S id ob = S := by
  funext x
  by_cases hx : x = id
  · subst hx; simp [upd,h]
  · simp [upd,hx]
theorem freezes : ∀ {rs : Rws} {c : Ctx} {S : Sto} {fp : Id → List Nat},StOK c S (hp w) fp → (∀ x ∈ rs,S x.1 = some (.row x.2.1 x.2.2) ∨ S x.1 = some (.frz x.2.1 (fals x.2.2))) → ∃ c' fp',Froze c S w fp rs c' fp'
  | [],c,S,fp,ok,_ => ⟨c,fp,ok,Adv.refl _ _,fun x hx => (by cases hx),fun _ _ => rfl,fun id ob b hs hb => .inl ⟨hb,ob,hs⟩⟩
  | (id,k,xs) :: rs,c,S,fp,ok,hr => by
    -- one
    have one : ∃ c1 fp1,StOK c1 (upd S id (.frz k (fals xs))) (hp w) fp1 ∧ Adv c c1 S (upd S id (.frz k (fals xs))) ∧ (∀ i ob b,S i = some ob → b ∈ fp i → (b ∈ fp1 i ∧ ∃ ob',upd S id (.frz k (fals xs)) i = some ob') ∨ ∃ o,c1.F b = some o ∧ hp w b = some o) := by
      rcases hr _ List.mem_cons_self with h | h
      · obtain ⟨h1,h2⟩ := ok.freeze h
        refine ⟨_,_,h1,h2,fun i ob b hs hb => ?_⟩
        by_cases hi : i = id
        · subst hi
          have := ok.lt hs hb
          have hsome : ∃ o,hp w b = some o := ⟨_,Array.getElem?_eq_getElem this⟩
          obtain ⟨o,ho⟩ := hsome
          exact .inr ⟨o,by simp [addF,hb,ho],ho⟩
        · exact .inl ⟨by simpa [setF,hi] using hb,ob,by simpa [upd,hi] using hs⟩
      · simp only at h
        rw [upd_same h]
        exact ⟨c,fp,ok,Adv.refl _ _,fun i ob b hs hb => .inl ⟨hb,ob,hs⟩⟩
    obtain ⟨c1,fp1,ok1,ha1,hb1⟩ := one
    have hr' : ∀ x ∈ rs,upd S id (.frz k (fals xs)) x.1 = some (.row x.2.1 x.2.2) ∨ upd S id (.frz k (fals xs)) x.1 = some (.frz x.2.1 (fals x.2.2)) := by
      intro x hx
      by_cases hi : x.1 = id
      · have h0 := hr _ List.mem_cons_self
        have h1 := hr x (List.mem_cons_of_mem _ hx)
        rw [hi] at h1
        simp only at h0
        have : x.2.1 = k ∧ fals x.2.2 = fals xs := by
          rcases h0 with h0 | h0 <;> rcases h1 with h1 | h1 <;> rw [h0] at h1 <;> simp only [Option.some.injEq,OB.row.injEq,OB.frz.injEq,reduceCtorEq] at h1
          · exact ⟨h1.1.symm,by rw [h1.2]⟩
          · exact ⟨h1.1.symm,h1.2.symm⟩
        right
        rw [hi,this.1,this.2]
        simp [upd]
      · simpa [upd,hi] using hr x (List.mem_cons_of_mem _ hx)
    obtain ⟨c2,fp2,hf⟩ := freezes ok1 hr'
    refine ⟨c2,fp2,hf.ok,ha1.trans hf.adv,fun x hx => ?_,fun i hi => ?_,fun i ob b hs hb => ?_⟩
    · simp only [frzs,upds]
      rcases List.mem_cons.1 hx with rfl | hx
      · by_cases hm : ∃ y ∈ rs,y.1 = id
        · obtain ⟨y,hy,hyi⟩ := hm
          have := hf.at' y hy
          rw [hyi] at this
          simp only [this]
          have h1 := hr' y hy
          rw [hyi] at h1
          simp only [upd,if_true] at h1
          rcases h1 with h1 | h1
          · cases h1
          · exact h1.symm
        · have := hf.same id (fun y hy e => hm ⟨y,hy,e⟩)
          simp only [this]
          simp [upd]
      · exact hf.at' x hx
    · simp only [frzs,upds]
      rw [hf.same i (fun x hx => hi x (List.mem_cons_of_mem _ hx))]
      have := hi _ List.mem_cons_self
      simp only at this
      simp [upd,Ne.symm this]
    · simp only [frzs,upds]
      rcases hb1 i ob b hs hb with ⟨h1,ob',h2⟩ | ⟨o,h1,h2⟩
      · exact hf.blk i ob' b h2 h1
      · exact .inr ⟨o,hf.adv.F b o h1,h2⟩
theorem thaw_at : ∀ {rs : Rws} {T : Sto},(∀ x ∈ rs,S x.1 = some (.row x.2.1 x.2.2)) → (∀ id,(∀ x ∈ rs,x.1 ≠ id) → T id = S id) → upds T (thaws rs) = S
  | [],T,_,h => by funext id; exact h id (fun x hx => by cases hx)
  | (i,k,xs) :: rs,T,hr,h => by
    simp only [thaws,upds]
    refine thaw_at (fun x hx => hr x (List.mem_cons_of_mem _ hx)) (fun id hid => ?_)
    by_cases hi : id = i
    · subst hi
      have := hr _ List.mem_cons_self
      simp only at this
      simp [upd,this]
    · simp only [upd,hi,if_false]
      refine h id (fun x hx => ?_)
      rcases List.mem_cons.1 hx with rfl | hx
      · exact fun e => hi e.symm
      · exact hid x hx
theorem rowId_row {g : Sto} {x : PV} : ∀ y ∈ rowId g x,g y.1 = some (.row y.2.1 y.2.2) := by
  intro y hy
  unfold rowId at hy
  split at hy
  · split at hy
    · simp only [List.mem_singleton] at hy; subst hy; assumption
    · cases hy
  · cases hy
theorem rowIds_row {g : Sto} : ∀ {xs : List PV},∀ y ∈ rowIds g xs,g y.1 = some (.row y.2.1 y.2.2)
  | [],y,hy => by cases hy
  | x :: xs,y,hy => by
    simp only [rowIds] at hy
    rcases List.mem_append.1 hy with h | h
    · exact rowId_row y h
    · exact rowIds_row y h
theorem rowIdE_row {g : Sto} {x : PV} : ∀ y ∈ rowIdE g x,g y.1 = some (.row y.2.1 y.2.2) := by
  intro y hy
  unfold rowIdE at hy
  split at hy
  · exact rowIds_row y hy
  · exact rowId_row y hy
theorem rowIdA_row {g : Sto} {byref : List Nat} : ∀ {xs : List PV} {q : Nat},∀ y ∈ rowIdA g byref q xs,g y.1 = some (.row y.2.1 y.2.2)
  | [],q,y,hy => by cases hy
  | x :: xs,q,y,hy => by
    simp only [rowIdA] at hy
    rcases List.mem_append.1 hy with h | h
    · split at h
      · cases h
      · exact rowIdE_row y h
    · exact rowIdA_row y h
structure Snp (c : Ctx) (S : Sto) (c1 : Ctx) (S1 : Sto) (w : World) (fp1 : Id → List Nat) : Prop where
  ok : StOK c1 S1 (hp w) fp1
  adv : Adv c c1 S S1
  frz : ∀ id k xs,S id = some (.frz k xs) → S1 id = some (.frz k xs)
theorem snap_ok {c1 : Ctx} {S1 : Sto} {fp1 : Id → List Nat} {x y : PV} {vs : List Value} (hs : Snp c S c1 S1 w fp1) (hfr : ∀ z ∈ rowId S x,S1 z.1 = some (.frz z.2.1 (fals z.2.2))) (hc : cellP x = true) (r : R c S (hp w) x vs []) (e : snap S x = some y) :
    R c1 S1 (hp w) y vs [] ∧ cellP y = true := by
  unfold snap at e
  split at e
  · rename_i id m
    obtain ⟨v,rfl,_⟩ := R_one rfl r
    have hv := (own_of r).adv hs.adv
    split at e
    · rename_i k xs hS
      split at e
      · rename_i hm
        simp only [Option.some.injEq] at e
        subst e
        have h1 := hfr (id,k,xs) (by simp [rowId,hS])
        simp only at h1
        subst hm
        rw [← fals_length xs] at hv
        exact ⟨row_shr hs.ok h1 hv,rfl⟩
      · cases e
    · rename_i k xs hS
      split at e
      · rename_i hm
        simp only [Option.some.injEq] at e
        subst e
        subst hm
        exact ⟨row_shr hs.ok (hs.frz id k xs hS) hv,rfl⟩
      · cases e
    · cases e
  · simp only [Option.some.injEq] at e
    subst e
    exact ⟨R_mono hs.adv r,hc⟩
theorem snaps_ok {c1 : Ctx} {S1 : Sto} {fp1 : Id → List Nat} (hs : Snp c S c1 S1 w fp1) : ∀ {xs ys : List PV} {vs : List Value},(∀ z ∈ rowIds S xs,S1 z.1 = some (.frz z.2.1 (fals z.2.2))) → xs.all cellP = true → Rs c S (hp w) xs vs [] → snaps S xs = some ys →
    Rs c1 S1 (hp w) ys vs [] ∧ ys.all cellP = true
  | [],ys,vs,_,_,r,e => by
    simp only [snaps,Option.some.injEq] at e
    subst e
    exact ⟨r,rfl⟩
  | x :: xs,ys,vs,hfr,hc,r,e => by
    simp only [snaps] at e
    split at e
    · rename_i y ys' h1 h2
      simp only [Option.some.injEq] at e
      subst e
      obtain ⟨v1,v2,f1,f2,rfl,hf,r1,r2⟩ := r
      have hf' := hf.symm
      simp only [List.append_eq_nil_iff] at hf'
      obtain ⟨rfl,rfl⟩ := hf'
      simp only [List.all_cons,Bool.and_eq_true] at hc
      obtain ⟨a1,a2⟩ := snap_ok hs (fun z hz => hfr z (by simp only [rowIds]; exact List.mem_append_left _ hz)) hc.1 r1 h1
      obtain ⟨b1,b2⟩ := snaps_ok hs (fun z hz => hfr z (by simp only [rowIds]; exact List.mem_append_right _ hz)) hc.2 r2 h2
      exact ⟨⟨v1,v2,[],[],rfl,rfl,a1,b1⟩,by simp [a2,b2]⟩
    · cases e
theorem snapE_ok {c1 : Ctx} {S1 : Sto} {fp1 : Id → List Nat} {x y : PV} {v : Value} (hs : Snp c S c1 S1 w fp1) (hfr : ∀ z ∈ rowIdE S x,S1 z.1 = some (.frz z.2.1 (fals z.2.2))) (r : RVal c S (hp w) x v) (e : snapE S x = some y) :
    RVal c1 S1 (hp w) y v := by
  cases x with
  | agg cs =>
    simp only [snapE] at e
    split at e
    · rename_i ys h
      simp only [Option.some.injEq] at e
      subst e
      obtain ⟨vs,rfl,hc,r⟩ := r
      obtain ⟨a1,a2⟩ := snaps_ok hs hfr hc r h
      exact ⟨vs,rfl,a2,a1⟩
    · cases e
  | own id m =>
    obtain ⟨a1,a2⟩ := snap_ok (x := .own id m) hs hfr rfl (R_of_RVal rfl (by intro h; cases h) r) (by simpa only [snapE] using e)
    exact RVal_of_R a2 a1
  | _ =>
    simp only [snapE,snap,Option.some.injEq] at e
    subst e
    exact r.adv hs.adv
theorem snapA_ok {c1 : Ctx} {S1 : Sto} {fp1 : Id → List Nat} {byref : List Nat} (hs : Snp c S c1 S1 w fp1) : ∀ {xs ys : List PV} {q : Nat} {vs : List Value},(∀ z ∈ rowIdA S byref q xs,S1 z.1 = some (.frz z.2.1 (fals z.2.2))) → RVals c S (hp w) xs vs → snapA S byref q xs = some ys →
    RVals c1 S1 (hp w) ys vs
  | [],ys,q,vs,_,r,e => by
    simp only [snapA,Option.some.injEq] at e
    subst e
    exact r
  | x :: xs,ys,q,vs,hfr,r,e => by
    obtain ⟨v,vs',rfl,r1,r2⟩ := r
    simp only [snapA] at e
    split at e
    · rename_i y ys' h1 h2
      simp only [Option.some.injEq] at e
      subst e
      refine ⟨v,vs',rfl, ?_,snapA_ok hs (fun z hz => hfr z (by simp only [rowIdA]; exact List.mem_append_right _ hz)) r2 h2⟩
      split at h1
      · simp only [Option.some.injEq] at h1
        subst h1
        exact r1.adv hs.adv
      · rename_i hb
        exact snapE_ok hs (fun z hz => hfr z (by simp only [rowIdA]; rw [if_neg hb]; exact List.mem_append_left _ hz)) r1 h1
    · cases e
theorem RVals_append : ∀ {xs ys : List PV} {vs us : List Value},RVals c S (hp w) xs vs → RVals c S (hp w) ys us → RVals c S (hp w) (xs ++ ys) (vs ++ us)
  | [],_,_,_,r,k => by simp only [RVals] at r; subst r; exact k
  | _ :: _,_,_,_,⟨v,ws,rfl,r1,r2⟩,k => ⟨v,_,rfl,r1,RVals_append r2 k⟩
theorem RVals_of_cells : ∀ {xs : List PV} {vs : List Value},xs.all cellP = true → Rs c S (hp w) xs vs [] → RVals c S (hp w) xs vs
  | [],_,_,r => r.1
  | x :: xs,_,hc,⟨v1,v2,f1,f2,rfl,hf,r1,r2⟩ => by
    have hf' := hf.symm
    simp only [List.append_eq_nil_iff] at hf'
    obtain ⟨rfl,rfl⟩ := hf'
    simp only [List.all_cons,Bool.and_eq_true] at hc
    obtain ⟨v,rfl,_⟩ := R_one hc.1 r1
    exact ⟨v,v2,rfl,RVal_of_R hc.1 r1,RVals_of_cells hc.2 r2⟩
theorem impo1_lv {n d q : Nat} {x : PV} : ∀ y ∈ (impo1 n d x q).2.2,y.1.1 = n := by
  intro y hy
  cases x with
  | sl u k xs =>
    cases u
    · cases hy
    · simp only [impo1,List.mem_singleton] at hy; subst hy; rfl
  | bx cs => simp only [impo1,List.mem_singleton] at hy; subst hy; rfl
  | _ => cases hy
theorem impos_lv {n d : Nat} : ∀ {xs : List PV} {q : Nat},∀ y ∈ (impos n d xs q).2.2,y.1.1 = n
  | [],q,y,hy => by cases hy
  | x :: xs,q,y,hy => by
    simp only [impos] at hy
    rcases List.mem_append.1 hy with h | h
    · exact impo1_lv y h
    · exact impos_lv y h
theorem impoE_lv {n d q : Nat} {x : PV} : ∀ y ∈ (impoE n d x q).2.2,y.1.1 = n := by
  intro y hy
  cases x with
  | agg cs => exact impos_lv y hy
  | _ => exact impo1_lv y hy
theorem impoEs_lv {n d : Nat} : ∀ {xs : List PV} {q : Nat},∀ y ∈ (impoEs n d xs q).2.2,y.1.1 = n
  | [],q,y,hy => by cases hy
  | x :: xs,q,y,hy => by
    simp only [impoEs] at hy
    rcases List.mem_append.1 hy with h | h
    · exact impoE_lv y h
    · exact impoEs_lv y h
theorem impo_lv {n d : Nat} {x : PV} : ∀ y ∈ (impo n d x 0).2.2,y.1.1 = n := by
  intro y hy
  cases x with
  | tup ps => exact impoEs_lv y hy
  | _ => exact impoE_lv y hy
theorem freshAll_spec {s : St} : ∀ {ws : List (Id × OB)},freshAll s ws = true → ∀ y ∈ ws,s.get y.1 = none
  | [],_,y,hy => by cases hy
  | (i,o) :: r,h,y,hy => by
    simp only [freshAll,Bool.and_eq_true] at h
    rcases List.mem_cons.1 hy with rfl | hy
    · simpa using h.1
    · exact freshAll_spec h.2 y hy
theorem land_ok {N n : Nat} {c0 : Ctx} {S0 : Sto} {w0 : World} {s s1 s' : St} {a : Act} {d : Option Nat} {r : PV} {v : Value} {f : List Nat} (sim : Sim N c fp s a w) (ha0 : Adv c0 c S0 s.get) (hg0 : Grew w0 w) (hdom : ∀ id ob,s.get id = some ob → id.1 = n ∨ ∃ ob',S0 id = some ob') (hn : s.o.length = n)
    (hr : s1.r = s.r) (hl : s1.o.length = s.o.length) (hdom1 : ∀ id ob,s1.get id = some ob → ∃ ob',s.get id = some ob')
    (hg : Grew w w') (ok' : StOK c' s1.get (hp w') fp') (ha : Adv c c' s.get s1.get) (hf : Free c' s1.get fp' f) (hret : Ret c' s1.get (hp w') r v f) (hd : ∀ t,d = some t → t < N) (e : land s.o.length d r s1 = some s') :
    Inv N c0 S0 w0 n s' (a.put d v) w' := by
  unfold land at e
  simp only at e
  split at e
  · rename_i hfr
    simp only [Bool.and_eq_true] at hfr
    simp only [Option.some.injEq] at e
    subst e
    obtain ⟨c3,fp3,hadd,hv⟩ := impo_ok (n := s.o.length) (d := d.getD 999) ok' hret hf (freshAll_spec hfr.1) hfr.2
    have hlv : ∀ x ∈ (impo s.o.length (d.getD 999) r 0).2.2,x.1.1 ≤ s1.o.length := fun x hx => by rw [impo_lv x hx,hl]; exact Nat.le_refl _
    have hgs := get_sets _ s1 hlv
    have sim1 : Sim N c' fp' s1 a w' := ⟨fun t => by rw [hr]; exact (sim.rg t).adv ha,ok',sim.df,sim.sz⟩
    refine ⟨c3,fp3,(sim1.move hlv hadd.ok hadd.adv).put hd (by rw [hgs]; exact hv), ?_,hg0.trans hg, ?_,by rw [put_o,sets_o_length,hl]; exact hn⟩
    · rw [get_put,hgs]; exact (ha0.trans ha).trans hadd.adv
    · rw [get_put,hgs]
      intro id ob hob
      by_cases hm : ∃ x ∈ (impo s.o.length (d.getD 999) r 0).2.2,x.1 = id
      · obtain ⟨x,hx,rfl⟩ := hm
        exact .inl (by rw [impo_lv x hx]; exact hn)
      · rw [upds_fresh (fun x hx e => hm ⟨x,hx,e⟩)] at hob
        obtain ⟨ob',h⟩ := hdom1 id ob hob
        exact hdom id ob' h
  · cases e
theorem StOK.same (ok : StOK c S (hp w) fp) (h1 : ∀ id ob b,S id = some ob → b ∈ fp id → hp w' b = hp w b) (h2 : ∀ b o,c.F b = some o ∨ c.X b = some o → hp w' b = some o) : StOK c S (hp w') fp :=
  ok.step (Adv.refl _ _) (fun _ => False) (fun id ob hs _ => ⟨hs,rfl,rfl,fun b hb => ⟨h1 id ob b hs hb,ok.nF id ob hs b hb⟩⟩) (fun _ _ _ h => h.elim) h2 ok.dis
theorem thaw_ok {call : CallF} (hs : SoundC P call) {f : Nat} {args : List PV} {vals : List Value} {rs : Rws} {r : PV} {o' : Stack} {c1 : Ctx} {fp1 : Id → List Nat} (ok : StOK c S (hp w) fp) (hfz : Froze c S w fp rs c1 fp1) (hn : noRefs args = true)
    (hr : RVals c1 (upds S (frzs rs)) (hp w) args vals) (hns : noShare r = true) (e : call f args [] = some (r,o')) : isGo P f ∧ Calls P f vals.toArray w (Did c S w S r) := by
  have hg := hs _ _ _ _ _ e
  refine ⟨hg.1, ?_⟩
  obtain ⟨h0,h3⟩ := hg
  let S1 := upds S (frzs rs)
  have hok := hide_ok (m := 0) hfz.ok
  have hgt : gt [] = hideS S1 0 := by rw [gt_nil,hideS_zero]
  have hargs' : RVals (hideC c1 S1 fp1 0 (hp w)) (hideS S1 0) (hp w) args vals := RVals.vis (c := c1) (c' := hideC c1 S1 fp1 0 (hp w)) (S := S1) (S' := hideS S1 0) (w := w) (fun _ _ h => h) (fun id hid => ⟨by simp [hideS,hid],rfl⟩) (inLvs_noRef (m := 0) hn) hr
  refine Calls.mono (h3 (hideC c1 S1 fp1 0 (hp w)) fp1 w vals (by rw [hgt]; exact hok) (by rw [hgt]; exact hargs')) ?_
  rintro e w' ⟨_,v,c',fp',f',rfl,hgr,hok',hadv,hfree,hret⟩
  have hX : c'.X = (hideC c1 S1 fp1 0 (hp w)).X := hadv.X
  -- the blocks of the caller's objects stay
  have hblk : ∀ id ob b,S id = some ob → b ∈ fp id → (∃ o,hp w b = some o ∧ (c'.F b = some o ∨ c'.X b = some o)) := by
    intro id ob b hs hb
    rcases hfz.blk id ob b hs hb with ⟨hb1,ob',hs1⟩ | ⟨o,h1,h2⟩
    · have := hfz.ok.lt hs1 hb1
      refine ⟨_,Array.getElem?_eq_getElem this,.inr ?_⟩
      rw [hX]
      simp only [hideC]
      rw [if_pos ⟨id,ob',Nat.zero_le _,hs1,hb1⟩]
      exact Array.getElem?_eq_getElem this
    · exact ⟨o,h2,.inl (hadv.F b o h1)⟩
  have hcX : ∀ b o,c.X b = some o → c'.X b = some o := by
    intro b o h
    rw [hX]
    simp only [hideC]
    rw [if_neg]
    · rw [hfz.adv.X]; exact h
    · rintro ⟨id,ob,_,hs,hb⟩
      exact (hfz.ok.nF id ob hs b hb).no (.inr (by rw [hfz.adv.X]; exact h))
  have hok2 : StOK c S (hp w') fp := by
    refine ok.same (fun id ob b hs hb => ?_) (fun b o h => ?_)
    · obtain ⟨o,h1,h2⟩ := hblk id ob b hs hb
      rw [h1]; exact hok'.okF b o h2
    · rcases h with h | h
      · exact hok'.okF b o (.inl (hadv.F b o (hfz.adv.F b o h)))
      · exact hok'.okF b o (.inr (hcX b o h))
  refine ⟨v,c,fp,f',rfl,hgr,hok2,Adv.refl _ _,⟨hfree.1,fun b hb => ?_⟩,Ret.noShare hns hret⟩
  obtain ⟨hu,_⟩ := hfree.2 b hb
  refine ⟨⟨?_, ?_⟩,fun id ob hs hb' => ?_⟩
  · cases hF : c.F b with
    | none => rfl
    | some o => exact hu.no (.inl (hadv.F b o (hfz.adv.F b o hF)))
  · cases hF : c.X b with
    | none => rfl
    | some o => exact hu.no (.inr (hcX b o hF))
  · obtain ⟨o,_,h⟩ := hblk id ob b hs hb'
    exact hu.no h
theorem run_call {o : Oper} {ρ : Operand → Value} {fo : Operand} {args : Array Operand} {ts : Array TypeId} {f : Nat} {caps : Array Value} (ho : o.op = .call ⟨.value fo,args,ts⟩) (hf : ρ fo = .func (.func f) #[] caps) (hgo : isGo P f) :
    (execOp ρ o).run P w = .ok (.enter f (args.map ρ ++ caps)) w := by
  obtain ⟨fn,h1,h2,h3⟩ := hgo
  have h4 : fn.body.isNone = false := by cases hb : fn.body <;> simp [hb] at h2 ⊢
  have h5 : ¬ fn.body = none := fun h => by rw [h] at h2; cases h2
  simp [execOp,ho,resolve,hf,Deferred.ofValue,invoke,callFunc,h1,h3,h4,h5]
def okCall : Op → Bool
  | .call ⟨.value _,_,_⟩ => true
  | _ => false
theorem Inv.call {call : CallF} (hs : SoundC P call) {N n : Nat} {c0 : Ctx} {S0 : Sto} {w0 : World} {s s' : St} {a : Act} {o : Oper} {ai : AI} {byref : List Nat} {leaky : Bool} {K : Act → World → Prop} {Q : Exit → Act → World → Prop}
    (inv : Inv N c0 S0 w0 n s a w) (hop : ai.op = .call byref leaky) (hk : okCall o.op = true) (hx : opdsOK ai.xs (opArgs o.op) = true) (hd : ai.d = o.dst) (hdN : ∀ t,ai.d = some t → t < N) (e : stepGo call s ai = some s') (hK : ∀ a' w',Inv N c0 S0 w0 n s' a' w' → K a' w') : o.wp P a w K Q := by
  obtain ⟨c,fp,sim,ha0,hg0,hdom,hn⟩ := inv
  unfold okCall at hk
  split at hk
  · rename_i fo args ts ho
    have hr := opds_RVals sim hx
    unfold stepGo at e
    rw [hop] at e
    simp only at e
    rw [ho] at hr
    simp only [opArgs,List.map_cons] at hr
    obtain ⟨x,xs,hxs,hrf,hra⟩ := RVals_cons_inv hr
    rw [hxs] at e
    unfold stepCall at e
    split at e
    · rename_i f caps xs' hcons
      simp only [List.cons.injEq] at hcons
      obtain ⟨rfl,rfl⟩ := hcons
      obtain ⟨_,cv,hfv,hcc,hcr⟩ := hrf
      have hfv : a.eval fo = .func (.func f) #[] cv.toArray := by simpa using hfv
      have hvals : ∀ (l : List Value),(args.map a.eval ++ cv.toArray) = ((args.toList.map a.eval) ++ cv).toArray := fun _ => by apply Array.ext'; simp
      have finish : isGo P f → Calls P f ((args.toList.map a.eval) ++ cv).toArray w (fun e w' => ∃ v,e = .returned v ∧ Inv N c0 S0 w0 n s' (a.put ai.d v) w') → o.wp P a w K Q := by
        intro hgo hc
        unfold Oper.wp
        rw [run_call ho hfv hgo,hvals []]
        simp only [Oper.upon]
        refine Calls.mono hc ?_
        rintro e w' ⟨v,rfl,hi⟩
        rw [hd] at hi
        exact hK _ _ hi
      split at e
      · cases e
      · rename_i ys hsnap
        split at e
        · -- nothing is frozen
          rename_i hrs
          split at e
          · rename_i r s1 hcb
            have hsn : Snp c s.get c s.get w fp := ⟨sim.st,Adv.refl _ _,fun _ _ _ h => h⟩
            have hys := snapA_ok hsn (fun z hz => by rw [hrs] at hz; cases hz) hra hsnap
            have hall := RVals_append hys (RVals_of_cells hcc hcr)
            obtain ⟨g1,_,g5,g6⟩ := callBy_ok hs sim.st hall hcb
            refine finish g5 (Calls.mono g6 ?_)
            rintro e' w' ⟨⟨g2,g3⟩,v,c',fp',f',rfl,k1,k2,k3,k4,k5⟩
            exact ⟨v,rfl,land_ok sim ha0 hg0 hdom hn g1 g2 g3 k1 k2 k3 k4 k5 hdN e⟩
          · cases e
        · rename_i rs hne
          have hrow := fun z (hz : z ∈ rowIdA s.get byref 0 xs) => rowIdA_row z hz
          obtain ⟨c1,fp1,hfz⟩ := freezes (rs := rowIdA s.get byref 0 xs) sim.st (fun z hz => .inl (hrow z hz))
          have hle : ∀ z ∈ frzs (rowIdA s.get byref 0 xs),z.1.1 ≤ s.o.length := by
            have : ∀ {rs : Rws},(∀ x ∈ rs,∃ ob,s.get x.1 = some ob) → ∀ z ∈ frzs rs,z.1.1 ≤ s.o.length := by
              intro rs
              induction rs with
              | nil => intro _ z hz; cases hz
              | cons y rs ih =>
                obtain ⟨i,k,l⟩ := y
                intro h z hz
                simp only [frzs] at hz
                rcases List.mem_cons.1 hz with rfl | hz
                · obtain ⟨ob,h'⟩ := h _ List.mem_cons_self
                  exact get_lvl h'
                · exact ih (fun x hx => h x (List.mem_cons_of_mem _ hx)) z hz
            exact this (fun x hx => ⟨_,hrow x hx⟩)
          have hgs := get_sets _ s hle
          have hsn : Snp c s.get c1 (upds s.get (frzs (rowIdA s.get byref 0 xs))) w fp1 := by
            refine ⟨hfz.ok,hfz.adv,fun id k l h => ?_⟩
            rw [hfz.same id (fun x hx e => by have := hrow x hx; rw [e,h] at this; cases this)]; exact h
          have hys := snapA_ok hsn (fun z hz => hfz.at' z hz) hra hsnap
          have hcr1 := Rs.adv hfz.adv _ _ _ (fun b hb => by cases hb) hcr (h' := hp w)
          have hall := RVals_append hys (RVals_of_cells hcc hcr1)
          split at e
          · rename_i r s1 hcb
            split at e
            · -- it stays frozen
              rw [← hgs] at hall
              have ok2 : StOK c1 (s.sets (frzs (rowIdA s.get byref 0 xs))).get (hp w) fp1 := by rw [hgs]; exact hfz.ok
              have hcb' : callBy call (s.sets (frzs (rowIdA s.get byref 0 xs))).o.length (s.sets (frzs (rowIdA s.get byref 0 xs))) f (ys ++ caps) = some (r,s1) := by rw [sets_o_length]; exact hcb
              obtain ⟨g1,_,g5,g6⟩ := callBy_ok hs ok2 hall hcb'
              refine finish g5 (Calls.mono g6 ?_)
              rintro e' w' ⟨⟨g2,g3⟩,v,c',fp',f',rfl,k1,k2,k3,k4,k5⟩
              rw [hgs] at k3
              refine ⟨v,rfl,land_ok sim ha0 hg0 hdom hn (g1.trans (sets_r _ _)) (g2.trans (sets_o_length _ _)) (fun id ob h => ?_) k1 k2 (hfz.adv.trans k3) k4 k5 hdN e⟩
              obtain ⟨ob',h'⟩ := g3 id ob h
              rw [hgs] at h'
              by_cases hm : ∃ x ∈ rowIdA s.get byref 0 xs,x.1 = id
              · obtain ⟨x,hx,rfl⟩ := hm
                exact ⟨_,hrow x hx⟩
              · rw [hfz.same id (fun x hx e => hm ⟨x,hx,e⟩)] at h'
                exact ⟨ob',h'⟩
            · split at e
              · rename_i hc2
                simp only [Bool.and_eq_true] at hc2
                have hcb' : ∃ o',call f (ys ++ caps) [] = some (r,o') ∧ s1 = s.sets (frzs (rowIdA s.get byref 0 xs)) := by
                  unfold callBy at hcb
                  rw [if_pos hc2.1] at hcb
                  split at hcb
                  · rename_i r' o' hc
                    simp only [Option.some.injEq,Prod.mk.injEq] at hcb
                    exact ⟨o',by rw [hc,hcb.1],hcb.2.symm⟩
                  · cases hcb
                obtain ⟨o',hcall,rfl⟩ := hcb'
                obtain ⟨g5,g6⟩ := thaw_ok hs sim.st hfz hc2.1 hall hc2.2 hcall
                have hth : ((s.sets (frzs (rowIdA s.get byref 0 xs))).sets (thaws (rowIdA s.get byref 0 xs))).get = s.get := by
                  rw [get_sets,hgs]
                  · exact thaw_at hrow (fun id hid => hfz.same id hid)
                  · rw [sets_o_length]
                    have : ∀ {rs : Rws},(∀ x ∈ rs,∃ ob,s.get x.1 = some ob) → ∀ z ∈ thaws rs,z.1.1 ≤ s.o.length := by
                      intro rs
                      induction rs with
                      | nil => intro _ z hz; cases hz
                      | cons y rs ih =>
                        obtain ⟨i,k,l⟩ := y
                        intro h z hz
                        simp only [thaws] at hz
                        rcases List.mem_cons.1 hz with rfl | hz
                        · obtain ⟨ob,h'⟩ := h _ List.mem_cons_self
                          exact get_lvl h'
                        · exact ih (fun x hx => h x (List.mem_cons_of_mem _ hx)) z hz
                    exact this (fun x hx => ⟨_,hrow x hx⟩)
                refine finish g5 (Calls.mono g6 ?_)
                rintro e' w' ⟨v,c',fp',f',rfl,k1,k2,k3,k4,k5⟩
                rw [← hth] at k2 k4 k5
                have k3' : Adv c c' s.get ((s.sets (frzs (rowIdA s.get byref 0 xs))).sets (thaws (rowIdA s.get byref 0 xs))).get := by rw [hth]; exact k3
                exact ⟨v,rfl,land_ok sim ha0 hg0 hdom hn ((sets_r _ _).trans (sets_r _ _)) ((sets_o_length _ _).trans (sets_o_length _ _)) (fun id ob h => by rw [hth] at h; exact ⟨ob,h⟩) k1 k2 k3' k4 k5 hdN e⟩
              · cases e
          · cases e
    · cases e
  · cases hk
end
end Go.Am
end
section
/- Regions in their text's order; what is kept behind a region. -/
set_option linter.unusedSimpArgs false
set_option linter.unusedVariables false
namespace Go.Am
open Go.RowKit
def okDst (N : Nat) : Option Nat → Bool
  | none => true
  | some d => decide (d < N)
theorem okDst_spec {N : Nat} {d : Option Nat} (h : okDst N d = true) : ∀ t,d = some t → t < N := by
  rintro t rfl; simpa [okDst] using h
def okAI (P : Program) (N : Nat) (ops : Array Oper) (ai : AI) (o : Oper) : Bool :=
  ai.d == o.dst && okDst N ai.d && okG ops ai.g o.guard && opdsOK ai.xs (opArgs o.op) && (if isCall ai.op then okCall o.op else !isChk ai.op && okOp P ai.op o.op)
def okAIs (P : Program) (N : Nat) (ops : Array Oper) : List AI → List Oper → Bool
  | [],[] => true
  | a :: as,o :: os => okAI P N ops a o && okAIs P N ops as os
  | _,_ => false
section
variable {P : Program} {N n : Nat} {c0 : Ctx} {S0 : Sto} {w0 w : World} {s s' : St} {a : Act} {call : CallF}
theorem ai_ok (hs : SoundC P call) (hlv : Lv n S0) {ops : Array Oper} {ai : AI} {o : Oper} {K : Act → World → Prop} {Q : Exit → Act → World → Prop} (inv : Inv N c0 S0 w0 n s a w) (hk : okAI P N ops ai o = true) (e : stepI call s ai = some s')
    (hK : ∀ a' w',Inv N c0 S0 w0 n s' a' w' → K a' w') : if Region.wanted o (yielded ops a.tmps) = true then o.wp P a w K Q else K (a.put o.dst undef) w := by
  simp only [okAI,Bool.and_eq_true] at hk
  obtain ⟨⟨⟨⟨h1,h2⟩,h3⟩,h4⟩,h5⟩ := hk
  have h1 := eq_of_beq h1
  have h2 := okDst_spec h2
  rcases guard_ok inv h3 h1 h2 e with ⟨hw,hgo⟩ | ⟨hw,hi⟩
  · rw [if_pos hw]
    by_cases hc : isCall ai.op = true
    · rw [if_pos hc] at h5
      obtain ⟨b,l,hop⟩ : ∃ b l,ai.op = .call b l := by
        cases h : ai.op <;> rw [h] at hc <;> first | (simp [isCall] at hc; done) | exact ⟨_,_,rfl⟩
      exact Inv.call hs inv hop h5 h4 h1 h2 hgo hK
    · rw [if_neg hc] at h5
      simp only [Bool.and_eq_true,Bool.not_eq_true'] at h5
      exact go_ok inv hlv h5.2 h5.1 (by simpa using hc) h4 h1 h2 hgo hK
  · rw [if_neg (by simp [hw])]
    exact hK _ _ hi
theorem list_ok (hs : SoundC P call) (hlv : Lv n S0) {ops : Array Oper} {Q : Exit → Act → World → Prop} : ∀ {as : List AI} {os : List Oper} {s : St} {a : Act} {w : World},okAIs P N ops as os = true → steps call s as = some s' → Inv N c0 S0 w0 n s a w →
    (∀ a' w',Inv N c0 S0 w0 n s' a' w' → Q .normal a' w') → wpList P ops Q os a w
  | [],os,s,a,w,hk,e,inv,hQ => by
    cases os with
    | nil =>
      simp only [steps,Option.some.injEq] at e
      subst e
      exact hQ _ _ inv
    | cons _ _ => simp [okAIs] at hk
  | ai :: as,os,s,a,w,hk,e,inv,hQ => by
    cases os with
    | nil => simp [okAIs] at hk
    | cons o os =>
      simp only [okAIs,Bool.and_eq_true] at hk
      simp only [steps] at e
      split at e
      · rename_i s1 h1
        refine wpList_step fun K hK => ai_ok hs hlv inv hk.1 h1 (fun a' w' inv' => hK _ _ ?_)
        exact list_ok hs hlv hk.2 e inv' hQ
      · cases e
section
variable {c c' : Ctx} {S S' : Sto} {h h' : Hp} {g : Nat → Bool}
mutual
theorem R.kn (hF : ∀ b o,c.F b = some o → c'.F b = some o) (hS : ∀ id : Id,(id.1 = n → g id.2 = true) → S' id = S id ∧ c'.L id = c.L id) : ∀ (x : PV) (vs : List Value) (fp : List Nat),known g n x = true → (∀ b ∈ fp,h' b = h b) → R c S h x vs fp → R c' S' h' x vs fp
  | .undef,_,_,_,_,r => r
  | .sc _,_,_,_,_,r => r
  | .nils,_,_,_,_,r => r
  | .sl u k xs,vs,fp,_,hf,r => by
    have ht : tree (.sl u k xs) = true := by
      cases u
      · exact r.1
      · exact r.1
    exact R.data hF _ vs fp ht hf r
  | .own id m,vs,fp,t,_,r => by
    obtain ⟨e1,e2⟩ := hS id (by simpa [known,Decidable.imp_iff_not_or] using t)
    obtain ⟨h0,v,h1,h2,h3⟩ := r
    exact ⟨h0,v,h1,h2,by unfold OwnOK at h3 ⊢; rw [e1,e2]; exact h3⟩
  | .ref id m i j,vs,fp,t,_,r => by
    obtain ⟨e1,e2⟩ := hS id (by simpa [known,Decidable.imp_iff_not_or] using t)
    obtain ⟨h0,v,h1,h2,h3⟩ := r
    exact ⟨h0,v,h1,h2,by unfold RefOK at h3 ⊢; rw [e1,e2]; exact h3⟩
  | .sub id m i,vs,fp,t,_,r => by
    obtain ⟨e1,e2⟩ := hS id (by simpa [known,Decidable.imp_iff_not_or] using t)
    obtain ⟨h0,v,h1,h2,h3⟩ := r
    exact ⟨h0,v,h1,h2,by unfold SubOK at h3 ⊢; rw [e1,e2]; exact h3⟩
  | .iref cs j,vs,fp,_,_,r => by
    obtain ⟨h0,g,off,cur,e,fr,ws,h1,h2,h3,h4,h5,h6⟩ := r
    exact ⟨h0,g,off,cur,e,fr,ws,h1,hF _ _ h2,h3,h4,Rs.data hF cs ws [] h4 (fun b hb => by cases hb) h5,h6⟩
  | .mp id,vs,fp,t,_,r => by
    obtain ⟨e1,e2⟩ := hS id (by simpa [known,Decidable.imp_iff_not_or] using t)
    obtain ⟨h0,v,h1,h2,h3⟩ := r
    exact ⟨h0,v,h1,h2,by unfold MapOK at h3 ⊢; rw [e1,e2]; exact h3⟩
  | .clo f caps,vs,fp,t,_,r => by
    simp only [known] at t
    obtain ⟨h0,ws,h1,h2,h3⟩ := r
    exact ⟨h0,ws,h1,h2,Rs.kn hF hS caps ws [] t (fun b hb => by cases hb) h3⟩
  | .agg cs,vs,fp,t,hf,r => by
    simp only [known] at t
    exact ⟨r.1,Rs.kn hF hS cs vs fp t hf r.2⟩
  | .tup _,_,_,_,_,r => r.elim
  | .bx _,_,_,_,_,r => r.elim
  | .non,_,_,_,_,r => r.elim
theorem Rs.kn (hF : ∀ b o,c.F b = some o → c'.F b = some o) (hS : ∀ id : Id,(id.1 = n → g id.2 = true) → S' id = S id ∧ c'.L id = c.L id) : ∀ (xs : List PV) (vs : List Value) (fp : List Nat),knowns g n xs = true → (∀ b ∈ fp,h' b = h b) → Rs c S h xs vs fp → Rs c' S' h' xs vs fp
  | [],_,_,_,_,r => r
  | x :: xs,vs,fp,t,hf,r => by
    simp only [knowns,Bool.and_eq_true] at t
    obtain ⟨v1,v2,f1,f2,h1,h2,h3,h4⟩ := r
    exact ⟨v1,v2,f1,f2,h1,h2,R.kn hF hS x v1 f1 t.1 (fun b hb => hf b (by rw [h2]; exact List.mem_append_left _ hb)) h3,
      Rs.kn hF hS xs v2 f2 t.2 (fun b hb => hf b (by rw [h2]; exact List.mem_append_right _ hb)) h4⟩
end
theorem RV1.kn {x : PV} {v : Value} (hF : ∀ b o,c.F b = some o → c'.F b = some o) (hS : ∀ id : Id,(id.1 = n → g id.2 = true) → S' id = S id ∧ c'.L id = c.L id) (t : known g n x = true) (r : RV1 c S h x v) : RV1 c' S' h' x v := by
  cases x with
  | undef => trivial
  | non => exact r
  | agg cs => obtain ⟨vs,e,r⟩ := r; exact ⟨vs,e,R.kn hF hS _ vs [] t (fun b hb => by cases hb) r⟩
  | _ => exact R.kn (h := h) hF hS _ _ [] t (fun b hb => by cases hb) r
theorem RV1s.kn (hF : ∀ b o,c.F b = some o → c'.F b = some o) (hS : ∀ id : Id,(id.1 = n → g id.2 = true) → S' id = S id ∧ c'.L id = c.L id) : ∀ {xs : List PV} {vs : List Value},knowns g n xs = true → RV1s c S h xs vs → RV1s c' S' h' xs vs
  | [],_,_,r => r
  | x :: xs,_,t,⟨v,ws,e,r1,r2⟩ => by
    simp only [knowns,Bool.and_eq_true] at t
    exact ⟨v,ws,e,r1.kn hF hS t.1,RV1s.kn hF hS t.2 r2⟩
theorem RVal.kn {x : PV} {v : Value} (hF : ∀ b o,c.F b = some o → c'.F b = some o) (hS : ∀ id : Id,(id.1 = n → g id.2 = true) → S' id = S id ∧ c'.L id = c.L id) (t : known g n x = true) (r : RVal c S h x v) : RVal c' S' h' x v := by
  cases x with
  | tup ps => obtain ⟨vs,e,r⟩ := r; exact ⟨vs,e,RV1s.kn hF hS t r⟩
  | _ => simp only [RVal] at r ⊢; exact RV1.kn hF hS t r
mutual
theorem known_up {m : Nat} (hm : m < n) : ∀ {x : PV},upTo m x = true → known g n x = true
  | .undef,_ | .sc _,_ | .nils,_ | .sl _ _ _,_ | .iref _ _,_ | .non,_ => rfl
  | .own _ _,t | .ref _ _ _ _,t | .sub _ _ _,t | .mp _,t => by
    simp only [upTo,decide_eq_true_eq] at t
    simp only [known,Bool.or_eq_true,Bool.not_eq_true',decide_eq_false_iff_not]
    left; omega
  | .clo _ cs,t | .agg cs,t | .tup cs,t | .bx cs,t => by simp only [upTo] at t; simp only [known]; exact knowns_up hm t
theorem knowns_up {m : Nat} (hm : m < n) : ∀ {xs : List PV},upTos m xs = true → knowns g n xs = true
  | [],_ => rfl
  | x :: xs,t => by
    simp only [upTos,Bool.and_eq_true] at t
    simp only [knowns,Bool.and_eq_true]
    exact ⟨known_up hm t.1,knowns_up hm t.2⟩
end
end
theorem getO_filterMap (l : Objs) : ∀ (objs : List Nat) (t : Nat),getO (objs.filterMap fun t => (getO l t).map (t,·)) t = if t ∈ objs then getO l t else none
  | [],t => rfl
  | u :: objs,t => by
    simp only [List.filterMap_cons]
    cases h : getO l u with
    | none =>
      simp only [Option.map_none]
      rw [getO_filterMap l objs t]
      by_cases ht : t ∈ objs
      · simp [ht]
      · by_cases hu : t = u
        · subst hu; simp [h]
        · simp [ht,hu]
    | some ob =>
      simp only [Option.map_some,getO]
      by_cases hu : u = t
      · subst hu; simp [h]
      · simp only [hu,if_false]
        rw [getO_filterMap l objs t]
        by_cases ht : t ∈ objs
        · simp [ht]
        · simp [ht,Ne.symm hu]
theorem getR_map (f : Nat → PV) : ∀ (live : List Nat) (t : Nat),getR (live.map fun t => (t,f t)) t = if t ∈ live then f t else .undef
  | [],t => rfl
  | u :: live,t => by
    simp only [List.map_cons,getR]
    by_cases h : u = t
    · subst h; simp
    · simp only [h,if_false]
      rw [getR_map f live t]
      simp [Ne.symm h]
theorem getO_mem : ∀ {l : Objs} {t : Nat} {ob : OB},getO l t = some ob → (t,ob) ∈ l
  | [],_,_,h => by cases h
  | (k,o) :: l,t,ob,h => by
    simp only [getO] at h
    split at h
    · rename_i hk
      simp only [Option.some.injEq] at h
      subst hk h
      exact List.mem_cons_self
    · exact List.mem_cons_of_mem _ (getO_mem h)
theorem keep_get (s : St) (lv ob : List Nat) (id : Id) : (s.keep lv ob).get id = if id.1 = s.o.length ∧ id.2 ∉ ob then none else s.get id := by
  simp only [St.get,St.keep]
  by_cases h : id.1 = s.o.length
  · simp only [h,if_true,true_and]
    rw [getO_filterMap]
    by_cases h2 : id.2 ∈ ob <;> simp [h2]
  · simp [h]
theorem StOK.less {c : Ctx} {S S' : Sto} {fp : Id → List Nat} (ok : StOK c S (hp w) fp) (hS : ∀ id ob,S' id = some ob → S id = some ob) (hro : ∀ id ob,S' id = some ob → RO c S' (hp w) id ob (fp id)) : StOK c S' (hp w) fp :=
  ⟨hro,fun id ob h => ok.nd id ob (hS id ob h),fun id id' ob ob' h h' => ok.dj id id' ob ob' (hS id ob h) (hS id' ob' h'),fun id ob h => ok.nF id ob (hS id ob h),ok.okF,ok.dis⟩
theorem RO.kn {c : Ctx} {S S' : Sto} {id : Id} {ob : OB} {fp : List Nat} (hb : ∀ cs,ob = .box cs → ∀ vs,Rs c S (hp w) cs vs [] → Rs c S' (hp w) cs vs []) (r : RO c S (hp w) id ob fp) : RO c S' (hp w) id ob fp := by
  cases ob with
  | box cs =>
    obtain ⟨cur,e,h1,h2,h3,h4,h5⟩ := r
    exact ⟨cur,e,h1,h2,hb cs rfl _ h3,h4,h5⟩
  | row k xs =>
    obtain ⟨t,l,r⟩ := r
    refine ⟨t,l, ?_⟩
    rcases r with r | ⟨fq,h1,⟨cur,e,ws,g1,g2,g3,g4,g5,g6⟩,h3⟩
    · exact .inl r
    · exact .inr ⟨fq,h1,⟨cur,e,ws,g1,g2,g3,g4,Rs.data (fun _ _ h => h) xs ws fq t (fun _ _ => rfl) g5,g6⟩,h3⟩
  | frz k xs =>
    obtain ⟨t,l,e,r⟩ := r
    refine ⟨t,l,e, ?_⟩
    rcases r with r | ⟨cur,et,ws,h1,hcp,h2,h3,h4⟩
    · exact .inl r
    · exact .inr ⟨cur,et,ws,h1,hcp,h2,Rs.data (fun _ _ h => h) xs ws [] t (fun _ _ => rfl) h3,h4⟩
  | dead => exact r
  | map s es => exact ⟨r.1.data (fun _ _ h => h) rfl,r.2⟩
theorem keep_ok {lv ob : List Nat} {ex : EX} (hlv : Lv n S0) (inv : Inv N c0 S0 w0 n s a w) (e : fin (s.keep lv ob) = some (ex,s')) : ex = .normal ∧ Inv N c0 S0 w0 n s' a w := by
  unfold fin at e
  split at e
  · rename_i hok
    simp only [Option.some.injEq,Prod.mk.injEq] at e
    obtain ⟨rfl,rfl⟩ := e
    refine ⟨rfl, ?_⟩
    obtain ⟨c,fp,sim,ha,hg,hdom,hn⟩ := inv
    have hget : ∀ id,(s.keep lv ob).get id = if id.1 = s.o.length ∧ id.2 ∉ ob then none else s.get id := keep_get s lv ob
    have hsub : ∀ id x,(s.keep lv ob).get id = some x → s.get id = some x := by
      intro id x h
      rw [hget] at h
      split at h
      · cases h
      · exact h
    have hlen : (s.keep lv ob).o.length = s.o.length := rfl
    -- names that are known lead to what is kept
    have hS : ∀ id : Id,(id.1 = s.o.length → (getO (s.keep lv ob).l id.2).isSome = true) → (s.keep lv ob).get id = s.get id ∧ c.L id = c.L id := by
      intro id h
      refine ⟨?_,rfl⟩
      rw [hget]
      split
      · rename_i h2
        have h3 := h h2.1
        simp only [St.keep] at h3
        rw [getO_filterMap,if_neg h2.2] at h3
        cases h3
      · rfl
    have hst : StOK c (s.keep lv ob).get (hp w) fp := by
      refine sim.st.less hsub (fun id x h => ?_)
      refine RO.kn (fun cs hcs vs r => ?_) (sim.st.ob id x (hsub id x h))
      subst hcs
      by_cases hid : id.1 = s.o.length
      · have hmem : (id.2,OB.box cs) ∈ (s.keep lv ob).l := by
          simp only [St.get] at h
          rw [if_pos (by rw [hlen]; exact hid)] at h
          exact getO_mem h
        have := List.all_eq_true.1 hok _ hmem
        simp only at this
        rw [hlen] at this
        exact Rs.kn (fun _ _ h => h) hS cs vs [] this (fun _ _ => rfl) r
      · have hlt : id.1 < s.o.length := by have := get_lvl (hsub id _ h); omega
        obtain ⟨cur,et,_,_,_,_,h5⟩ := sim.st.ob id _ (hsub id _ h)
        exact Rs.kn (g := fun t => (getO (s.keep lv ob).l t).isSome) (fun _ _ h => h) hS cs vs [] (knowns_up hlt h5) (fun _ _ => rfl) r
    refine ⟨c,fp,⟨fun t => ?_,hst,sim.df,sim.sz⟩,⟨ha.F,ha.X,fun id x h => ?_⟩,hg,fun id x h => hdom id x (hsub id x h),hn⟩
    · simp only [St.keep]
      rw [getR_map (fun t => if known (fun t => (getO (ob.filterMap fun t => (getO s.l t).map (t,·)) t).isSome) s.o.length (getR s.r t) then getR s.r t else .undef)]
      split
      · split
        · rename_i hkn
          exact RVal.kn (c := c) (S := s.get) (h := hp w) (fun _ _ h => h) hS hkn (sim.rg t)
        · trivial
      · trivial
    · obtain ⟨x',h1,h2⟩ := ha.st id x h
      refine ⟨x', ?_,h2⟩
      have := hlv id x h
      rw [hget,if_neg (by omega)]
      exact h1
  · cases e
end
end Go.Am
end
