/- What the functions that the law reaches compute. -/
import Derived.Test.YtmpbcedglimhkaaGreatEqA
section
set_option maxRecDepth 10000
set_option linter.unusedSimpArgs false
set_option linter.unusedVariables false
namespace Go.Am
open Go.Proofs Go.Sort Go.Shelf
theorem get_setS_top {r : Regs} {l : Objs} {o : Stack} {id : Id} {R : OB} {d : Nat} : St.get ⟨r,l,setS o id R⟩ (o.length,d) = getO l d := by simp [St.get,setS_len]
theorem set_setS_top {r : Regs} {l : Objs} {o : Stack} {id : Id} {R R' : OB} {d : Nat} : St.set ⟨r,l,setS o id R⟩ (o.length,d) R' = ⟨r,setO l d R',setS o id R⟩ := by simp [St.set,setS_len]
theorem eqCompact (id : Id) (l : List Mv) (o : Stack) (hid : id.1 < o.length) (hg : getS o id = some (.row 2 (l.map mvP))) (hN : l.length ≤ 4611686018427387904) :
    (dd l = l ∧ callI G 31 [.own id l.length] o = some (.own id l.length,o)) ∨ callI G 31 [.own id l.length] o = some (.sl true 2 ((dd l).map mvP),setS o id .dead) := by
  have hne : ¬ id.1 = o.length := by omega
  have hgl : ∀ r l R,St.get ⟨r,l,setS o id R⟩ (o.length,59) = getO l 59 := fun r l R => by simp [St.get,setS_len]
  have hget : ∀ r l',St.get ⟨r,l',o⟩ id = some (.row 2 (l.map mvP)) := fun r l' => by rw [get_low hid,hg]
  rw [callI_eq]
  match l,hg,hN,hget with
  | [],hg,hN,hget =>
    refine .inl ⟨rfl, ?_⟩
    simp [-St.get,-St.set,body1_eq _ _ (gp 31) g31,c31,a31,hne,hget,hid]
  | [x],hg,hN,hget =>
    refine .inl ⟨rfl, ?_⟩
    simp [-St.get,-St.set,body1_eq _ _ (gp 31) g31,c31,a31,hne,hget,hid]
  | x :: y :: l,hg,hN,hget =>
    have h2 : ¬ ((l.length : Int) + 1 + 1 < 2) := by omega
    rcases loopCp1 id (x :: y :: l).length (y :: l) [] x o hid (by simpa using hg) (by simp; omega) hN with ⟨hd,hn⟩ | hn
    · refine .inl ⟨by simp [dd,hd], ?_⟩
      simp only [List.length_cons,List.length_nil,Int.natCast_add,show ((0 : Nat) : Int) = 0 from rfl,show ((1 : Nat) : Int) = 1 from rfl,Int.zero_add] at hn
      simp [-St.get,-St.set,body1_eq _ _ (gp 31) g31,c31,a31,hne,hget,hid,h2,hn]
    · refine .inr ?_
      simp only [List.length_cons,List.length_nil,Int.natCast_add,show ((0 : Nat) : Int) = 0 from rfl,show ((1 : Nat) : Int) = 1 from rfl,Int.zero_add,List.nil_append] at hn
      simp [-St.get,-St.set,body1_eq _ _ (gp 31) g31,c31,a31,hne,hget,hid,h2,hn,dd,setS_len,hgl]
theorem eqCompactN (o : Stack) : callI G 31 [.nils] o = some (.nils,o) := by
  rw [callI_eq]
  simp [-St.get,-St.set,body1_eq _ _ (gp 31) g31,c31,a31]
def srtM (l : List Mv) : List Mv := l.mergeSort fun x y => !ltM y x
def tidyL (l : List Mv) : List Mv := dd (srtM l)
theorem eqTidy (id : Id) (l : List Mv) (o : Stack) (hid : id.1 < o.length) (hg : getS o id = some (.row 2 (l.map mvP))) (hN : l.length < 4611686018427387904) :
    (tidyL l = srtM l ∧ callI G 13 [.own id l.length] o = some (.own id l.length,setS o id (.row 2 ((tidyL l).map mvP)))) ∨ callI G 13 [.own id l.length] o = some (.sl true 2 ((tidyL l).map mvP),setS o id .dead) := by
  have hne : ¬ id.1 = o.length := by omega
  have hid2 : id.1 < (o ++ [[]]).length := by simp; omega
  have hS : sortP 29 ltM [.own id l.length,.clo 29 []] (o ++ [[]]) = some (.tup [],setS o id (.row 2 ((srtM l).map mvP)) ++ [[]]) := by
    simp [sortP,hN,getS_app _ _ _ hid,hg,unMs_map,setS_app _ _ _ _ hid]
    rfl
  have hsl : (srtM l).length = l.length := by simp [srtM]
  have hc := eqCompact id (srtM l) (setS o id (.row 2 ((srtM l).map mvP)) ++ [[]]) (by simp [setS_len]; omega) (by rw [getS_app _ _ _ (by rw [setS_len]; exact hid),getS_setS hid]) (by simp [srtM]; omega)
  rw [hsl,setS_app _ _ _ _ (by rw [setS_len]; exact hid),setS_setS] at hc
  rw [callI_eq]
  rcases hc with ⟨hd,hc⟩ | hc
  · refine .inl ⟨hd, ?_⟩
    rw [tidyL,hd]
    simp [-St.get,-St.set,body1_eq _ _ (gp 13) g13,c13,a13,hne,hid,eqSortM,hS,hc,setS_len]
  · refine .inr ?_
    simp [-St.get,-St.set,body1_eq _ _ (gp 13) g13,c13,a13,hne,hid,eqSortM,hS,hc,setS_len,tidyL,get_setS_top,set_setS_top]
theorem eqTidyN (o : Stack) : callI G 13 [.nils] o = some (.nils,o) := by
  have hS : sortP 29 ltM [.nils,.clo 29 []] [] = some (.tup [],[]) := by simp [sortP]
  rw [callI_eq]
  simp [-St.get,-St.set,body1_eq _ _ (gp 13) g13,c13,a13,eqSortM,hS,eqCompactN]
end Go.Am
end
section
set_option maxRecDepth 10000
set_option linter.unusedSimpArgs false
set_option linter.unusedVariables false
namespace Go.Am
open Go.Proofs Go.Sort Go.Shelf
def shL (k : Int) (l : List Mv) : List Mv := l.map fun x => (x.1,x.2 + k)
@[simp] theorem shL_len (k : Int) (l : List Mv) : (shL k l).length = l.length := by simp [shL]
def owP (d : Nat) (l : List Mv) : PV := if l = [] then .nils else .own (0,d) l.length
def owL (d : Nat) (l : List Mv) : Objs := if l = [] then [] else [(d,.row 2 (l.map mvP))]
@[simp] theorem owP_n (d : Nat) : owP d [] = .nils := rfl
@[simp] theorem owL_n (d : Nat) : owL d [] = [] := rfl
@[simp] theorem owP_c (d : Nat) (x : Mv) (l : List Mv) : owP d (x :: l) = .own (0,d) (l.length + 1) := rfl
@[simp] theorem owL_c (d : Nat) (x : Mv) (l : List Mv) : owL d (x :: l) = [(d,.row 2 (mvP x :: l.map mvP))] := rfl
@[simp] theorem owP_s (d : Nat) (a : List Mv) (x : Mv) (l : List Mv) : owP d (a ++ x :: l) = .own (0,d) (a.length + (l.length + 1)) := by simp [owP]
@[simp] theorem owL_s (d : Nat) (a : List Mv) (x : Mv) (l : List Mv) : owL d (a ++ x :: l) = [(d,.row 2 (a.map mvP ++ mvP x :: l.map mvP))] := by simp [owL]
theorem wr1 : IntKind.i64.wrap 1 = 1 := by rfl
theorem loopSh (k : Int) (hk : 0 ≤ k ∧ k ≤ 1000) : ∀ (rest done : List Mv),(∀ x ∈ rest,0 ≤ x.2 ∧ x.2 ≤ 1000) → (done ++ rest).length ≤ 4294967296 →
    loopI G [1,5,9,10,11] [8,24] c14l0 ⟨[(1,.i k),(5,owP 24 (shL k done)),(9,.sl false 2 ((done ++ rest).map mvP)),(10,.i (done ++ rest).length),(11,.i done.length)],owL 24 (shL k done),[]⟩ =
      some (.exit 0,⟨[(1,.i k),(5,owP 24 (shL k (done ++ rest))),(9,.sl false 2 ((done ++ rest).map mvP)),(10,.i (done ++ rest).length),(11,.i (done ++ rest).length),(12,.b false)],owL 24 (shL k (done ++ rest)),[]⟩)
  | [],done,hr,h => by
    rw [loopI_eq]
    rcases done with _ | ⟨y,done⟩
    · simp [r14l0,b14l0,shL]
    · simp [r14l0,b14l0,shL]
  | x :: rest,done,hr,h => by
    have hx := hr x List.mem_cons_self
    have hlt : (done.length : Int) < (done.length : Int) + ((rest.length : Int) + 1) := by omega
    have hw : IntKind.i64.wrap ((done.length : Int) + 1) = (done.length : Int) + 1 := wr (by simp at h; omega)
    have hw2 : IntKind.i64.wrap (x.2 + k) = x.2 + k := wr (by omega)
    have hdl : done.length ≤ 4294967295 := by simp at h; omega
    have hat := mv_at done x rest
    have hn := loopSh k hk rest (done ++ [x]) (fun y hy => hr y (List.mem_cons_of_mem _ hy)) (by simpa using h)
    rw [loopI_eq]
    simp only [mvP,List.map_append,List.map_cons] at hat
    by_cases hd : done = []
    · subst hd
      simp at hat hn
      simp [r14l0,b14l0,hlt,hat,mvP,unAgg,hw,hw2,hdl,shL,wr1]
      simpa [shL,mvP,Int.add_assoc] using hn
    · have hp : ∀ f : List Mv → List Mv,owP 24 (shL k done) = .own (0,24) done.length := fun _ => by simp [owP,shL,hd]
      have ho : owL 24 (shL k done) = [(24,.row 2 ((shL k done).map mvP))] := by simp [owL,shL,hd]
      rw [hp id,ho]
      simp [r14l0,b14l0,hlt,hat,mvP,unAgg,hw,hw2,hdl]
      simpa [shL,mvP,Int.add_assoc] using hn
theorem eqShift (k : Int) (hk : 0 ≤ k ∧ k ≤ 1000) (l : List Mv) (hr : ∀ x ∈ l,0 ≤ x.2 ∧ x.2 ≤ 1000) (h : l.length ≤ 4294967296) :
    callI G 14 [.sl false 2 (l.map mvP),.i k] [] = some (encL true true (shL k l),[]) := by
  have hl := loopSh k hk l [] hr (by simpa using h)
  simp only [List.nil_append,List.length_nil,show ((0 : Nat) : Int) = 0 from rfl,show shL k [] = [] from rfl,owP_n,owL_n] at hl
  rw [callI_eq]
  by_cases hd : l = []
  · subst hd
    simp [shL] at hl
    simp [body1_eq _ _ (gp 14) g14,c14,a14,hl,shL]
  · have hp : owP 24 (shL k l) = .own (0,24) l.length := by simp [owP,shL,hd]
    have ho : owL 24 (shL k l) = [(24,.row 2 ((shL k l).map mvP))] := by simp [owL,shL,hd]
    have he : encL true true (shL k l) = .sl true 2 ((shL k l).map mvP) := encL_ne (by simp [shL,hd])
    rw [hp,ho] at hl
    rw [he]
    simp [body1_eq _ _ (gp 14) g14,c14,a14,hl]
end Go.Am
end
section
set_option maxRecDepth 10000
set_option linter.unusedSimpArgs false
set_option linter.unusedVariables false
namespace Go.Am
open Go.Proofs Go.Sort Go.Shelf
def addNew : List Int → List Mv → List Int
  | row,[] => row
  | row,m :: l => addNew (if m.2 ∈ row then row else row ++ [m.2]) l
def bfs (g : Gr) : Nat → Nat → List Int → List Int
  | 0,_,row => row
  | f + 1,i,row => if i < row.length then bfs g f (i + 1) (addNew row (g.getD (row.getD i 0).toNat [])) else row
def reach (g : Gr) (s : Int) : List Int := bfs g (g.length + 1) 0 [s]
def InN (n : Nat) (row : List Int) : Prop := row.Nodup ∧ ∀ x ∈ row,0 ≤ x ∧ x < n
def OkTo (g : Gr) : Prop := ∀ l ∈ g,∀ m ∈ l,0 ≤ m.2 ∧ m.2 < g.length
theorem nodup_le : ∀ (l m : List Nat),l.Nodup → (∀ x ∈ l,x ∈ m) → l.length ≤ m.length
  | [],m,_,_ => Nat.zero_le _
  | x :: l,m,hn,hs => by
    have hx := hs x List.mem_cons_self
    have h1 := List.nodup_cons.1 hn
    have := nodup_le l (m.erase x) h1.2 (fun y hy => (List.mem_erase_of_ne (fun e => h1.1 (by rw [← e]; exact hy))).2 (hs y (List.mem_cons_of_mem _ hy)))
    rw [List.length_erase_of_mem hx] at this
    have hm := List.length_pos_of_mem hx
    simp only [List.length_cons]; omega
theorem InN.len {n : Nat} {row : List Int} (h : InN n row) : row.length ≤ n := by
  have := nodup_le (row.map Int.toNat) (List.range n) (by
    unfold List.Nodup
    rw [List.pairwise_map]
    exact List.Pairwise.imp_of_mem (fun {a b} ha hb hab e => hab (by have := h.2 a ha; have := h.2 b hb; omega)) h.1) (fun x hx => by
    obtain ⟨y,hy,rfl⟩ := List.mem_map.1 hx
    have := h.2 y hy
    rw [List.mem_range]; omega)
  simpa using this
theorem InN.add {n : Nat} : ∀ {l : List Mv} {row : List Int},InN n row → (∀ m ∈ l,0 ≤ m.2 ∧ m.2 < n) → InN n (addNew row l)
  | [],row,h,_ => h
  | m :: l,row,h,hl => by
    simp only [addNew]
    refine InN.add ?_ (fun y hy => hl y (List.mem_cons_of_mem _ hy))
    split
    · exact h
    · rename_i hm
      refine ⟨List.nodup_append.2 ⟨h.1,by simp,fun a ha b hb e => hm ?_⟩,fun x hx => ?_⟩
      · rw [List.mem_singleton] at hb; subst hb; subst e; exact ha
      · rcases List.mem_append.1 hx with hx | hx
        · exact h.2 x hx
        · rw [List.mem_singleton] at hx; subst hx; exact hl m List.mem_cons_self
theorem addNew_len : ∀ (l : List Mv) (row : List Int),row.length ≤ (addNew row l).length
  | [],row => Nat.le_refl _
  | m :: l,row => by
    simp only [addNew]
    refine Nat.le_trans ?_ (addNew_len l _)
    split <;> simp
theorem OkTo.row {g : Gr} (h : OkTo g) (i : Nat) : ∀ m ∈ g.getD i [],0 ≤ m.2 ∧ m.2 < g.length := by
  intro m hm
  by_cases hi : i < g.length
  · rw [List.getD_eq_getElem?_getD,List.getElem?_eq_getElem hi,Option.getD_some] at hm
    exact h _ (List.getElem_mem hi) m hm
  · rw [List.getD_eq_getElem?_getD,List.getElem?_eq_none (by omega)] at hm; cases hm
theorem InN.bfs {g : Gr} (hg : OkTo g) : ∀ (f i : Nat) {row : List Int},InN g.length row → InN g.length (bfs g f i row)
  | 0,_,_,h => h
  | f + 1,i,row,h => by
    simp only [Am.bfs]
    split
    · exact InN.bfs hg f (i + 1) (h.add (hg.row _))
    · exact h
theorem InN.one {n : Nat} {s : Int} (h : 0 ≤ s ∧ s < n) : InN n [s] := ⟨by simp,fun x hx => by rw [List.mem_singleton] at hx; subst hx; exact h⟩
theorem gr_nth (nl u : Bool) (g : Gr) (i : Nat) (h : i < g.length) : nth (encGs nl u g) i = some (encL nl u (g.getD i [])) := by
  unfold nth encGs
  simp [List.getElem?_map,List.getElem?_eq_getElem h]
theorem int_nth (row : List Int) (i : Nat) (h : i < row.length) : nth (row.map PV.i) i = some (.i (row.getD i 0)) := by
  unfold nth
  simp [List.getElem?_map,List.getElem?_eq_getElem h]
theorem getD_mem {row : List Int} {i : Nat} (h : i < row.length) : row.getD i 0 ∈ row := by
  rw [List.getD_eq_getElem?_getD,List.getElem?_eq_getElem h,Option.getD_some]
  exact List.getElem_mem h
theorem encL_two (nl u : Bool) (l : List Mv) : (encL nl u l = .nils ∧ l = []) ∨ encL nl u l = .sl u 2 (l.map mvP) := by
  unfold encL
  split
  · rename_i h; simp only [Bool.and_eq_true,List.isEmpty_iff] at h; exact .inl ⟨rfl,h.2⟩
  · exact .inr rfl
def EncR (u : Bool) (E : List PV) (g : Gr) : Prop := E.length = g.length ∧ ∀ i,i < g.length → ∃ nl,nth E i = some (encL nl u (g.getD i []))
theorem encR_G (nl u : Bool) (g : Gr) : EncR u (encGs nl u g) g := ⟨by simp,fun i h => ⟨nl,gr_nth nl u g i h⟩⟩
theorem EncR.app {u : Bool} {E F : List PV} {g h : Gr} (hE : EncR u E g) (hF : EncR u F h) : EncR u (E ++ F) (g ++ h) := by
  refine ⟨by simp [hE.1,hF.1],fun i hi => ?_⟩
  rw [List.length_append] at hi
  by_cases c : i < g.length
  · obtain ⟨nl,e⟩ := hE.2 i c
    refine ⟨nl, ?_⟩
    unfold nth at e ⊢
    rw [List.getElem?_append_left (by rw [hE.1]; exact c),e]
    simp [List.getD_eq_getElem?_getD,List.getElem?_append_left c]
  · obtain ⟨nl,e⟩ := hF.2 (i - g.length) (by omega)
    refine ⟨nl, ?_⟩
    unfold nth at e ⊢
    rw [List.getElem?_append_right (by rw [hE.1]; omega),hE.1,e]
    simp [List.getD_eq_getElem?_getD,List.getElem?_append_right (show g.length ≤ i by omega)]
theorem fals_map : ∀ E : List PV,fals E = E.map fal
  | [] => rfl
  | x :: E => by simp [fals,fals_map E]
theorem EncR.fal {u : Bool} {E : List PV} {g : Gr} (hE : EncR u E g) : EncR false (fals E) g := by
  refine ⟨by rw [fals_map]; simp [hE.1],fun i hi => ?_⟩
  obtain ⟨nl,e⟩ := hE.2 i hi
  refine ⟨nl, ?_⟩
  unfold nth at e ⊢
  rw [fals_map,List.getElem?_map,e,Option.map_some,fal_encL]
def seenM (row : List Int) : List (Key × PV) := row.map fun n => (.i n,.b true)
theorem lkp_seen (x : Int) : ∀ row : List Int,(lkp (.i x) (seenM row)).getD (.b false) = .b (decide (x ∈ row))
  | [] => rfl
  | y :: row => by
    have ih := lkp_seen x row
    simp only [seenM,List.map_cons,lkp,Key.i.injEq]
    by_cases h : y = x
    · simp [h]
    · have h2 : ¬ x = y := fun e => h e.symm
      simp only [seenM] at ih
      simp [h,ih,h2]
theorem ins_seen (x : Int) : ∀ row : List Int,x ∉ row → ins (.i x) (.b true) (seenM row) = seenM (row ++ [x])
  | [],_ => rfl
  | y :: row,h => by
    have hy : y ≠ x := fun e => h (e ▸ List.mem_cons_self)
    have ih := ins_seen x row (fun e => h (List.mem_cons_of_mem _ e))
    simp only [seenM,List.map_cons,ins,Key.i.injEq,hy,if_false,List.cons_append] at ih ⊢
    rw [ih]
theorem loopRe0 (nl : Bool) (E : List PV) (j : Int) : ∀ (rest done : List Mv) (row : List Int),(done ++ rest).length ≤ 4294967296 → row.length + rest.length ≤ 4294967296 →
    loopI G [2,5,6,7,28,29,30] [2,11,12,46] c32l0 ⟨[(2,.ref (0,2) 1 0 0),(5,.own (0,11) row.length),(6,.mp (0,12)),(7,.i j),(28,encL nl false (done ++ rest)),(29,.i (done ++ rest).length),(30,.i done.length)],[(2,.box [PV.sl false 1 (E)]),(11,.row 1 (row.map PV.i)),(12,.map false (seenM row))],[]⟩ =
      some (.exit 2,⟨[(2,.ref (0,2) 1 0 0),(5,.own (0,11) (addNew row rest).length),(6,.mp (0,12)),(7,.i j),(28,encL nl false (done ++ rest)),(29,.i (done ++ rest).length),(30,.i (done ++ rest).length),(31,.b false)],[(2,.box [PV.sl false 1 (E)]),(11,.row 1 ((addNew row rest).map PV.i)),(12,.map false (seenM (addNew row rest)))],[]⟩)
  | [],done,row,h,hr => by
    rw [loopI_eq]
    simp [r32l0,b32l0,addNew]
  | x :: rest,done,row,h,hr => by
    have hlt : (done.length : Int) < (done.length : Int) + ((rest.length : Int) + 1) := by omega
    have hw : IntKind.i64.wrap ((done.length : Int) + 1) = (done.length : Int) + 1 := wr (by simp at h; omega)
    have hrl : row.length ≤ 4294967295 := by simp at hr; omega
    have hat := mv_at done x rest
    have hlk := lkp_seen x.2 row
    have hen : encL nl false (done ++ x :: rest) = .sl false 2 ((done ++ x :: rest).map mvP) := encL_ne (by simp)
    have hn := fun row' hr' => loopRe0 nl E j rest (done ++ [x]) row' (by simpa using h) hr'
    have e1 : done ++ [x] ++ rest = done ++ x :: rest := by simp
    simp only [e1] at hn
    rw [hen] at hn ⊢
    rw [loopI_eq]
    simp only [mvP,List.map_append,List.map_cons] at hat
    by_cases hm : x.2 ∈ row
    · have hn := hn row (by simp at hr; omega)
      simp [r32l0,b32l0,hlt,hat,mvP,unAgg,hw,hrl,hlk,hm,addNew]
      simpa [mvP,Int.add_assoc] using hn
    · have hn := hn (row ++ [x.2]) (by simp at hr ⊢; omega)
      have hins := ins_seen x.2 row hm
      simp [r32l0,b32l0,hlt,hat,mvP,unAgg,hw,hrl,hlk,hm,addNew,hins]
      simpa [mvP,Int.add_assoc] using hn
theorem loopRe1 (E : List PV) (g : Gr) (hE : EncR false E g) (hg : OkTo g) (hs : SmallG g) : ∀ (f i : Nat) (row : List Int),InN g.length row → i ≤ row.length → g.length + 1 ≤ i + f →
    loopI G [2,5,6,7] [2,11,12,46] c32l1 ⟨[(2,.ref (0,2) 1 0 0),(5,.own (0,11) row.length),(6,.mp (0,12)),(7,.i i)],[(2,.box [PV.sl false 1 (E)]),(11,.row 1 (row.map PV.i)),(12,.map false (seenM row))],[]⟩ =
      some (.exit 0,⟨[(2,.ref (0,2) 1 0 0),(5,.own (0,11) (bfs g f i row).length),(6,.mp (0,12)),(7,.i (bfs g f i row).length),(18,.b false)],[(2,.box [PV.sl false 1 (E)]),(11,.row 1 ((bfs g f i row).map PV.i)),(12,.map false (seenM (bfs g f i row)))],[]⟩)
  | 0,i,row,hr,hi,hf => by have := hr.len; omega
  | f + 1,i,row,hr,hi,hf => by
    have hl := hr.len
    have hgl := hs.1
    by_cases h : i < row.length
    · have hlt : (i : Int) < row.length := by omega
      have hx := hr.2 _ (getD_mem h)
      have hat := int_nth row i h
      generalize hxe : row.getD i 0 = x at hx hat
      have hxl : x < g.length := hx.2
      have hxn : x.toNat < g.length := by omega
      obtain ⟨nl,hat2⟩ := hE.2 x.toNat hxn
      have hEl := hE.1
      have hrow : ∀ m ∈ g.getD x.toNat [],0 ≤ m.2 ∧ m.2 < g.length := hg.row _
      have hrl : (g.getD x.toNat []).length ≤ 1048576 := hs.2 _ (by rw [List.getD_eq_getElem?_getD,List.getElem?_eq_getElem hxn,Option.getD_some]; exact List.getElem_mem hxn)
      have hb : bfs g (f + 1) i row = bfs g f (i + 1) (addNew row (g.getD x.toNat [])) := by simp [bfs,h,← hxe]
      rw [hb]
      generalize hL : g.getD x.toNat [] = L at hat2 hrow hrl
      have h0 := loopRe0 nl E i L [] row (by simp; omega) (by omega)
      simp only [List.nil_append,List.length_nil,show ((0 : Nat) : Int) = 0 from rfl] at h0
      have hn := loopRe1 E g hE hg hs f (i + 1) (addNew row L) (hr.add hrow) (by have := addNew_len L row; omega) (by omega)
      have hw : IntKind.i64.wrap ((i : Int) + 1) = (i : Int) + 1 := wr (by omega)
      rw [loopI_eq]
      rcases encL_two nl false L with ⟨e,e2⟩ | e
      · rw [e] at hat2 h0
        subst e2
        simp only [List.length_nil,show ((0 : Nat) : Int) = 0 from rfl] at h0
        simp [r32l1,b32l1,h,hlt,hat,hat2,hx.1,hxl,h0,hw,hEl]
        simpa using hn
      · rw [e] at hat2 h0
        simp [r32l1,b32l1,h,hlt,hat,hat2,hx.1,hxl,h0,hw,hEl]
        simpa using hn
    · have he : i = row.length := by omega
      have hb : bfs g (f + 1) i row = row := by simp [bfs,h]
      rw [hb,loopI_eq]
      subst he
      simp [r32l1,b32l1]
theorem eqReached (E : List PV) (g : Gr) (hE : EncR false E g) (hg : OkTo g) (hs : SmallG g) (s : Int) (h : 0 ≤ s ∧ s < g.length) :
    callI G 32 [.agg [.sl false 1 (E)],.i s] [] = some (.sl true 1 ((reach g s).map PV.i),[]) := by
  have hl := loopRe1 E g hE hg hs (g.length + 1) 0 [s] (InN.one h) (by simp) (by omega)
  have hsm : seenM [s] = [(.i s,.b true)] := rfl
  simp only [show ((0 : Nat) : Int) = 0 from rfl,List.length_cons,List.length_nil,List.map_cons,List.map_nil,hsm] at hl
  rw [callI_eq]
  have hi : ins (.i s) (.b true) [] = [(.i s,.b true)] := rfl
  simp [body1_eq _ _ (gp 32) g32,c32,a32,hl,hi,reach]
end Go.Am
end
section
set_option maxRecDepth 10000
set_option linter.unusedSimpArgs false
set_option linter.unusedVariables false
namespace Go.Am
open Go.Proofs Go.Sort Go.Shelf
def atG : Nat → List Int → Int → Int
  | _,[],_ => 0
  | i,y :: l,x => if y = x then i else atG (i + 1) l x
def atOf (row : List Int) (x : Int) : Int := atG 0 row x
def atM : Nat → List Int → List (Key × PV)
  | _,[] => []
  | i,x :: l => (.i x,.i i) :: atM (i + 1) l
theorem lkp_at (x : Int) : ∀ (row : List Int) (i : Nat),(lkp (.i x) (atM i row)).getD (.i 0) = .i (atG i row x)
  | [],_ => rfl
  | y :: row,i => by
    simp only [atM,lkp,atG,Key.i.injEq]
    by_cases h : y = x
    · simp [h]
    · simp [h,lkp_at x row (i + 1)]
theorem ins_at (x : Int) : ∀ (row : List Int) (i n : Nat),n = i + row.length → x ∉ row → ins (.i x) (.i n) (atM i row) = atM i (row ++ [x])
  | [],i,n,hn,_ => by subst hn; rfl
  | y :: row,i,n,hn,h => by
    have hy : y ≠ x := fun e => h (by rw [e]; exact List.mem_cons_self)
    have ih := ins_at x row (i + 1) n (by simp at hn; omega) (fun e => h (List.mem_cons_of_mem _ e))
    simp only [atM,ins,Key.i.injEq,hy,if_false,List.cons_append,ih]
def reT (row : List Int) (l : List Mv) : List Mv := l.map fun m => (m.1,atOf row m.2)
@[simp] theorem reT_len (row : List Int) (l : List Mv) : (reT row l).length = l.length := by simp [reT]
def partG (g : Gr) (s : Int) : Gr := (reach g s).map fun r => tidyL (reT (reach g s) (g.getD r.toNat []))
def made (g : Gr) : Gr × Bool := if (reach g 0).length ≤ 60 then (partG g 0,true) else ([],false)
theorem addNew_pre : ∀ (l : List Mv) (row : List Int),∃ t,addNew row l = row ++ t
  | [],row => ⟨[],by simp [addNew]⟩
  | m :: l,row => by
    simp only [addNew]
    split
    · exact addNew_pre l row
    · obtain ⟨t,ht⟩ := addNew_pre l (row ++ [m.2])
      exact ⟨m.2 :: t,by rw [ht]; simp⟩
theorem loopPt0 (A : PV) (hA : ∀ f n,known f n A = true) (N : Nat) (hN : N ≤ 4294967296) : ∀ (rest done : List Int),(done ++ rest).Nodup → (done ++ rest).length = N →
    loopI G [0,4,6,7,25,26,27] [4,19,24,69] c15l0 ⟨[(0,A),(4,.ref (0,4) 1 0 0),(6,.own (0,19) N),(7,.mp (0,24)),(25,.own (0,19) N),(26,.i N),(27,.i done.length)],[(4,.box [.nils]),(19,.row 1 ((done ++ rest).map PV.i)),(24,.map false (atM 0 done))],[]⟩ =
      some (.exit 0,⟨[(0,A),(4,.ref (0,4) 1 0 0),(6,.own (0,19) N),(7,.mp (0,24)),(25,.own (0,19) N),(26,.i N),(27,.i N),(28,.b false)],[(4,.box [.nils]),(19,.row 1 ((done ++ rest).map PV.i)),(24,.map false (atM 0 (done ++ rest)))],[]⟩)
  | [],done,hd,h => by
    simp only [List.append_nil] at h ⊢
    rw [h,loopI_eq]
    simp [r15l0,b15l0,hA,h]
  | x :: rest,done,hd,h => by
    have hlt : (done.length : Int) < N := by simp at h; omega
    have hlt2 : done.length < N := by omega
    have hw : IntKind.i64.wrap ((done.length : Int) + 1) = (done.length : Int) + 1 := wr (by omega)
    have hat : nth ((done ++ x :: rest).map PV.i) done.length = some (.i x) := by rw [List.map_append,List.map_cons]; exact at_D _ _ _ _ (by simp)
    have hx : x ∉ done := fun hm => (List.nodup_append.1 hd).2.2 x hm x List.mem_cons_self rfl
    have hins := ins_at x done 0 done.length (by omega) hx
    have hn := loopPt0 A hA N hN rest (done ++ [x]) (by simpa using hd) (by simpa using h)
    have e1 : done ++ [x] ++ rest = done ++ x :: rest := by simp
    rw [e1] at hn
    have hl2 : ((done ++ x :: rest).map PV.i).length = N := by simpa using h
    generalize hR : (done ++ x :: rest).map PV.i = R at hat hn hl2 ⊢
    rw [loopI_eq]
    simp [r15l0,b15l0,hA,hlt,hlt2,hl2,hw,hat,hins]
    simpa using hn
def OwnS (d k : Nat) (Y : PV) (L : Objs) (xs : List PV) : Prop := (xs = [] ∧ Y = .nils ∧ L = []) ∨ (xs ≠ [] ∧ Y = .own (0,d) xs.length ∧ L = [(d,.row k xs)])
theorem loopPt1 (nl : Bool) (A Y R : PV) (hA : ∀ f n,known f n A = true) (YL : Objs) (xs rs : List PV) (hY : OwnS 69 1 Y YL xs) (row : List Int) (j : Int) : ∀ (rest done : List Mv),(done ++ rest).length ≤ 4294967296 →
    loopI G [0,4,7,10,13,37,38,39,47,48,49] [4,10,19,24,43,62,69] c15l1 ⟨[(0,A),(4,.ref (0,4) 1 0 0),(7,.mp (0,24)),(10,.ref (0,10) 1 0 0),(13,owP 62 (reT row done)),(37,.own (0,19) row.length),(38,.i row.length),(39,.i j),(47,encL nl false (done ++ rest)),(48,.i (done ++ rest).length),(49,.i done.length)],(4,.box [.nils]) :: (10,.box [Y]) :: (19,.row 1 (row.map PV.i)) :: (24,.map false (atM 0 row)) :: (owL 62 (reT row done) ++ YL),[]⟩ =
      some (.exit 4,⟨[(0,A),(4,.ref (0,4) 1 0 0),(7,.mp (0,24)),(10,.ref (0,10) 1 0 0),(13,owP 62 (reT row (done ++ rest))),(37,.own (0,19) row.length),(38,.i row.length),(39,.i j),(47,encL nl false (done ++ rest)),(48,.i (done ++ rest).length),(49,.i (done ++ rest).length),(50,.b false)],(4,.box [.nils]) :: (10,.box [Y]) :: (19,.row 1 (row.map PV.i)) :: (24,.map false (atM 0 row)) :: (owL 62 (reT row (done ++ rest)) ++ YL),[]⟩)
  | [],done,h => by
    rw [loopI_eq]
    rcases hY with ⟨rfl,rfl,rfl⟩ | ⟨hxs,rfl,rfl⟩
    · by_cases hd : done = []
      · subst hd
        simp [r15l1,b15l1,hA,reT]
      · have hp : owP 62 (reT row done) = .own (0,62) done.length := by simp [owP,reT,hd]
        have ho : owL 62 (reT row done) = [(62,.row 2 ((reT row done).map mvP))] := by simp [owL,reT,hd]
        simp [r15l1,b15l1,hA,hp,ho]
    · by_cases hd : done = []
      · subst hd
        simp [r15l1,b15l1,hA,reT]
      · have hp : owP 62 (reT row done) = .own (0,62) done.length := by simp [owP,reT,hd]
        have ho : owL 62 (reT row done) = [(62,.row 2 ((reT row done).map mvP))] := by simp [owL,reT,hd]
        simp [r15l1,b15l1,hA,hp,ho]
  | x :: rest,done,h => by
    have hlt : (done.length : Int) < (done.length : Int) + ((rest.length : Int) + 1) := by omega
    have hw : IntKind.i64.wrap ((done.length : Int) + 1) = (done.length : Int) + 1 := wr (by simp at h; omega)
    have hdl : done.length ≤ 4294967295 := by simp at h; omega
    have hat := mv_at done x rest
    have hlk := lkp_at x.2 row 0
    have hn := loopPt1 nl A Y R hA YL xs rs hY row j rest (done ++ [x]) (by simpa using h)
    have hen : encL nl false (done ++ x :: rest) = .sl false 2 ((done ++ x :: rest).map mvP) := encL_ne (by simp)
    have e1 : done ++ [x] ++ rest = done ++ x :: rest := by simp
    rw [e1] at hn
    rw [hen] at hn ⊢
    rw [loopI_eq]
    simp only [mvP,List.map_append,List.map_cons] at hat
    rcases hY with ⟨rfl,rfl,rfl⟩ | ⟨hxs,rfl,rfl⟩
    · by_cases hd : done = []
      · subst hd
        simp at hat hn
        simp [r15l1,b15l1,hlt,hat,mvP,unAgg,hw,hdl,reT,wr1,hA,hlk]
        simpa [reT,mvP,Int.add_assoc,atOf] using hn
      · have hp : owP 62 (reT row done) = .own (0,62) done.length := by simp [owP,reT,hd]
        have ho : owL 62 (reT row done) = [(62,.row 2 ((reT row done).map mvP))] := by simp [owL,reT,hd]
        rw [hp,ho]
        simp [r15l1,b15l1,hlt,hat,mvP,unAgg,hw,hdl,hA,hlk]
        simpa [reT,mvP,Int.add_assoc,atOf] using hn
    · by_cases hd : done = []
      · subst hd
        simp at hat hn
        simp [r15l1,b15l1,hlt,hat,mvP,unAgg,hw,hdl,reT,wr1,hA,hlk]
        simpa [reT,mvP,Int.add_assoc,atOf] using hn
      · have hp : owP 62 (reT row done) = .own (0,62) done.length := by simp [owP,reT,hd]
        have ho : owL 62 (reT row done) = [(62,.row 2 ((reT row done).map mvP))] := by simp [owL,reT,hd]
        rw [hp,ho]
        simp [r15l1,b15l1,hlt,hat,mvP,unAgg,hw,hdl,hA,hlk]
        simpa [reT,mvP,Int.add_assoc,atOf] using hn
end Go.Am
end
section
set_option maxRecDepth 10000
set_option maxHeartbeats 1000000
set_option linter.unusedSimpArgs false
set_option linter.unusedVariables false
namespace Go.Am
open Go.Proofs Go.Sort Go.Shelf
theorem tidyL_n : tidyL [] = [] := by simp [tidyL,srtM,dd]
theorem tidyL_ne {l : List Mv} (h : l ≠ []) : tidyL l ≠ [] := by
  unfold tidyL
  cases hs : srtM l with
  | nil =>
    have : (srtM l).length = l.length := by simp [srtM]
    rw [hs] at this
    exact absurd (List.length_eq_zero_iff.1 this.symm) h
  | cons x m => simp [dd]
def ptR (g : Gr) (row : List Int) (r : Int) : List Mv := tidyL (reT row (g.getD r.toNat []))
theorem loopPt2 (E : List PV) (g : Gr) (hE : EncR false E g) (hs : SmallG g) (row : List Int) (hrow : InN g.length row) : ∀ (rest done : List Int),row = done ++ rest → ∀ Y YL,OwnS 69 1 Y YL (encGs true true (done.map (ptR g row))) →
    ∃ Y' YL',OwnS 69 1 Y' YL' (encGs true true (row.map (ptR g row))) ∧
    loopI G [0,4,7,10,37,38,39] [4,10,19,24,69] c15l2 ⟨[(0,.sl false 1 (E)),(4,.ref (0,4) 1 0 0),(7,.mp (0,24)),(10,.ref (0,10) 1 0 0),(37,.own (0,19) row.length),(38,.i row.length),(39,.i done.length)],(4,.box [.nils]) :: (10,.box [Y]) :: (19,.row 1 (row.map PV.i)) :: (24,.map false (atM 0 row)) :: YL,[]⟩ =
      some (.exit 2,⟨[(0,.sl false 1 (E)),(4,.ref (0,4) 1 0 0),(7,.mp (0,24)),(10,.ref (0,10) 1 0 0),(37,.own (0,19) row.length),(38,.i row.length),(39,.i row.length),(40,.b false)],(4,.box [.nils]) :: (10,.box [Y']) :: (19,.row 1 (row.map PV.i)) :: (24,.map false (atM 0 row)) :: YL',[]⟩)
  | [],done,hd,Y,YL,hY => by
    rw [List.append_nil] at hd
    subst hd
    refine ⟨Y,YL,hY, ?_⟩
    rw [loopI_eq]
    rcases hY with ⟨h1,rfl,rfl⟩ | ⟨h1,rfl,rfl⟩
    · simp [r15l2,b15l2]
    · simp [r15l2,b15l2]
  | x :: rest,done,hd,Y,YL,hY => by
    have hl := hrow.len
    have hgl := hs.1
    have hrl : row.length = done.length + (rest.length + 1) := by rw [hd]; simp
    have hlt : (done.length : Int) < row.length := by omega
    have hlt2 : done.length < row.length := by omega
    have hw : IntKind.i64.wrap ((done.length : Int) + 1) = (done.length : Int) + 1 := wr (by omega)
    have hx := hrow.2 x (by rw [hd]; simp)
    have hat : nth (row.map PV.i) done.length = some (.i x) := by rw [hd,List.map_append,List.map_cons]; exact at_D _ _ _ _ (by simp)
    have hxl : x < g.length := hx.2
    have hxn : x.toNat < g.length := by omega
    obtain ⟨nl,hat2⟩ := hE.2 x.toNat hxn
    have hEl := hE.1
    have hLl : (g.getD x.toNat []).length ≤ 1048576 := hs.2 _ (by rw [List.getD_eq_getElem?_getD,List.getElem?_eq_getElem hxn,Option.getD_some]; exact List.getElem_mem hxn)
    have hpt : ptR g row x = tidyL (reT row (g.getD x.toNat [])) := rfl
    have hYl : (encGs true true (done.map (ptR g row))).length = done.length := by simp
    have hdl : done.length ≤ 4294967295 := by omega
    generalize hL : g.getD x.toNat [] = L at hat2 hLl hpt
    have h0 := loopPt1 nl (.sl false 1 (E)) Y .nils (by intro f n; simp) YL _ [] hY row done.length L [] (by simp; omega)
    simp only [List.nil_append,List.length_nil,show ((0 : Nat) : Int) = 0 from rfl,show reT row [] = [] from rfl,owP_n,owL_n] at h0
    have hnew : encGs true true ((done ++ [x]).map (ptR g row)) = encGs true true (done.map (ptR g row)) ++ [encL true true (ptR g row x)] := by simp [encGs]
    have hnn : encGs true true ((done ++ [x]).map (ptR g row)) ≠ [] := by rw [hnew]; simp
    have hYn : OwnS 69 1 (.own (0,69) (done.length + 1)) [(69,.row 1 (encGs true true (done.map (ptR g row)) ++ [encL true true (ptR g row x)]))] (encGs true true ((done ++ [x]).map (ptR g row))) := by
      refine .inr ⟨hnn, ?_, ?_⟩
      · rw [hnew]; simp
      · rw [hnew]
    obtain ⟨Y',YL',hY',hn⟩ := loopPt2 E g hE hs row hrow rest (done ++ [x]) (by simpa using hd) _ _ hYn
    refine ⟨Y',YL',hY', ?_⟩
    simp only [List.length_append,List.length_cons,List.length_nil,Int.natCast_add,show ((0 + 1 : Nat) : Int) = 1 from rfl] at hn
    clear hY'
    rw [loopI_eq]
    by_cases hLe : L = []
    · subst hLe
      have hr0 : reT row [] = [] := rfl
      rw [hr0,tidyL_n] at hpt
      rw [hpt] at hn
      have htN := eqTidyN []
      have e1 : encL nl false [] = .nils ∨ encL nl false [] = .sl false 2 [] := by cases nl <;> simp [encL]
      rcases hY with ⟨h1,rfl,rfl⟩ | ⟨h1,rfl,rfl⟩
      · have hd0 : done = [] := by cases done with | nil => rfl | cons a b => simp [encGs] at h1
        subst hd0
        have hlt0 : 0 < row.length := by omega
        rcases e1 with e | e
        all_goals
          rw [e] at hat2 h0
          simp [hr0] at h0 hn hat
          simp [r15l2,b15l2,hlt,hlt2,hw,hat,hat2,hx.1,hxl,hEl,h0,htN,wr1,hlt0]
          simpa [encGs] using hn
      · rcases e1 with e | e
        all_goals
          rw [e] at hat2 h0
          simp [hr0] at h0 hn
          simp [r15l2,b15l2,hlt,hlt2,hw,hat,hat2,hx.1,hxl,hEl,h0,htN,hdl]
          simpa [encGs] using hn
    · have hen : encL nl false L = .sl false 2 (L.map mvP) := encL_ne hLe
      have hp : owP 62 (reT row L) = .own (0,62) L.length := by simp [owP,reT,hLe]
      have ho : owL 62 (reT row L) = [(62,.row 2 ((reT row L).map mvP))] := by simp [owL,reT,hLe]
      have hlt3 : encL true true (ptR g row x) = .sl true 2 ((tidyL (reT row L)).map mvP) := by rw [hpt]; exact encL_ne (tidyL_ne (by simp [reT,hLe]))
      rw [hlt3] at hn
      rw [hen] at hat2 h0
      rw [hp,ho] at h0
      rcases hY with ⟨h1,rfl,rfl⟩ | ⟨h1,rfl,rfl⟩
      · have hd0 : done = [] := by cases done with | nil => rfl | cons a b => simp [encGs] at h1
        subst hd0
        have hlt0 : 0 < row.length := by omega
        have ht := eqTidy (0,62) (reT row L) [[(4,.box [.nils]),(10,.box [.nils]),(19,.row 1 (row.map PV.i)),(24,.map false (atM 0 row)),(62,.row 2 ((reT row L).map mvP))]] (by simp) (by simp [getS,getO]) (by simp; omega)
        simp [setS,setO] at ht
        simp at h0 hn hat
        rcases ht with ⟨hts,ht⟩ | ht
        · have hTl : (tidyL (reT row L)).length = L.length := by rw [hts]; simp [srtM]
          simp [r15l2,b15l2,hlt,hlt2,hw,hat,hat2,hx.1,hxl,hEl,h0,ht,wr1,hlt0,hTl]
          simpa [encGs] using hn
        · simp [r15l2,b15l2,hlt,hlt2,hw,hat,hat2,hx.1,hxl,hEl,h0,ht,wr1,hlt0]
          simpa [encGs] using hn
      · have ht := eqTidy (0,62) (reT row L) [[(4,.box [.nils]),(10,.box [.own (0,69) (encGs true true (done.map (ptR g row))).length]),(19,.row 1 (row.map PV.i)),(24,.map false (atM 0 row)),(62,.row 2 ((reT row L).map mvP)),(69,.row 1 (encGs true true (done.map (ptR g row))))]] (by simp) (by simp [getS,getO]) (by simp; omega)
        simp [setS,setO] at ht
        simp at h0 hn
        rcases ht with ⟨hts,ht⟩ | ht
        · have hTl : (tidyL (reT row L)).length = L.length := by rw [hts]; simp [srtM]
          simp [r15l2,b15l2,hlt,hlt2,hw,hat,hat2,hx.1,hxl,hEl,h0,ht,hdl,hTl]
          simpa [encGs] using hn
        · simp [r15l2,b15l2,hlt,hlt2,hw,hat,hat2,hx.1,hxl,hEl,h0,ht,hdl]
          simpa [encGs] using hn
theorem bfs_len (g : Gr) : ∀ (f i : Nat) (row : List Int),row.length ≤ (bfs g f i row).length
  | 0,_,row => Nat.le_refl _
  | f + 1,i,row => by
    simp only [bfs]
    split
    · exact Nat.le_trans (addNew_len _ row) (bfs_len g f (i + 1) _)
    · exact Nat.le_refl _
theorem eqPartOf (E : List PV) (g : Gr) (hE : EncR false E g) (hg : OkTo g) (hs : SmallG g) (h : 0 < g.length) :
    callI G 15 [.sl false 1 (E),.i 0] [] = some (.tup [encG true true (made g).1,.b (made g).2],[]) := by
  have h1 := eqReached E g hE hg hs 0 (by omega)
  have hr : InN g.length (reach g 0) := InN.bfs hg _ _ (InN.one (by omega))
  have hl := hr.len
  have hgl := hs.1
  have hbl := bfs_len g (g.length + 1) 0 [0]
  unfold made
  have hpg : partG g 0 = (reach g 0).map (ptR g (reach g 0)) := rfl
  rw [hpg]
  have hrl : 1 ≤ (reach g 0).length := by unfold reach; simpa using hbl
  generalize hR : reach g 0 = row at h1 hr hl
  rw [hR] at hrl
  have hne : row ≠ [] := by intro e; rw [e] at hrl; cases hrl
  rw [callI_eq]
  by_cases hc : row.length ≤ 60
  · have hc2 : ¬ (60 : Int) < row.length := by omega
    have l0 := loopPt0 (.sl false 1 (E)) (by intro f n; simp) row.length (by omega) row [] hr.1 rfl
    obtain ⟨Y,YL,hY,l2⟩ := loopPt2 E g hE hs row hr row [] rfl .nils [] (.inl ⟨rfl,rfl,rfl⟩)
    simp only [List.nil_append,List.length_nil,show ((0 : Nat) : Int) = 0 from rfl,show atM 0 [] = [] from rfl] at l0 l2
    have hne2 : encGs true true (row.map (ptR g row)) ≠ [] := by simp [encGs,hne]
    rcases hY with ⟨q,_⟩ | ⟨_,rfl,rfl⟩
    · exact absurd q hne2
    · have he : encG true true (row.map (ptR g row)) = .agg [.sl true 1 (encGs true true (row.map (ptR g row)))] := by simp [encG,encM',hne]
      simp only [hc,if_true,he]
      simp [body1_eq _ _ (gp 15) g15,c15,a15,h1,hc,hc2,l0,l2]
  · have hc2 : (60 : Int) < row.length := by omega
    simp [body1_eq _ _ (gp 15) g15,c15,a15,h1,hc,hc2]
end Go.Am
end
section
set_option maxRecDepth 10000
set_option maxHeartbeats 1000000
set_option linter.unusedSimpArgs false
set_option linter.unusedVariables false
namespace Go.Am
open Go.Proofs Go.Sort Go.Shelf
theorem rowOk_mem {n : Nat} : ∀ {l : List Mv} {p : Option Mv},rowOk n p l = true → ∀ m ∈ l,mvOk n m = true
  | [],_,_,m,hm => by cases hm
  | x :: l,p,h,m,hm => by
    simp only [rowOk,Bool.and_eq_true] at h
    rcases List.mem_cons.1 hm with rfl | hm
    · exact h.1
    · exact rowOk_mem h.2.2 m hm
theorem grOk_to {g : Gr} (h : grOk g = true) : OkTo g ∧ 1 ≤ g.length ∧ g.length ≤ 60 := by
  simp only [grOk,Bool.and_eq_true,decide_eq_true_eq,List.all_eq_true] at h
  refine ⟨fun l hl m hm => ?_,h.1,h.2.1⟩
  have := rowOk_mem (h.2.2 l hl) m hm
  simp only [mvOk,Bool.and_eq_true,decide_eq_true_eq] at this
  exact this.2
theorem noShares_mv : ∀ l : List Mv,noShares (l.map mvP) = true
  | [] => rfl
  | x :: l => by simp [noShares,noShare,mvP]; exact noShares_mv l
theorem noShare_encL (nl : Bool) (l : List Mv) : noShare (encL nl true l) = true := by
  rcases encL_two nl true l with ⟨e,_⟩ | e <;> simp [e,noShare,noShares_mv]
theorem noShares_encGs (nl : Bool) : ∀ g : Gr,noShares (encGs nl true g) = true
  | [] => rfl
  | x :: g => by
    have := noShares_encGs nl g
    simp only [encGs,List.map_cons,noShares] at this ⊢
    simp [this,noShare_encL]
theorem encM_two (nl u : Bool) (g : Gr) : (encM' nl u g = .nils ∧ g = []) ∨ encM' nl u g = .sl u 1 (encGs nl u g) := by
  unfold encM'
  split
  · rename_i h; simp only [Bool.and_eq_true,List.isEmpty_iff] at h; exact .inl ⟨rfl,h.2⟩
  · exact .inr rfl
end Go.Am
end
section
set_option maxRecDepth 10000
set_option maxHeartbeats 1000000
set_option linter.unusedSimpArgs false
set_option linter.unusedVariables false
namespace Go.Am
open Go.Proofs Go.Sort Go.Shelf
def bothG (a b : Gr) : Gr := a ++ b.map (shL a.length)
theorem loopBo0 (E : List PV) (B : PV) (hB : ∀ f n,known f n B = true) (a : Gr) (hE : EncR false E a) (h60 : a.length ≤ 100000) (hs : SmallG a) : ∀ (rest done : Gr),a = done ++ rest → ∀ Y YL,OwnS 29 1 Y YL (encGs false false done) →
    ∃ Y' YL',OwnS 29 1 Y' YL' (encGs false false a) ∧
    loopI G [2,3,4,5,6] [2,3,4,5,29,80] c17l0 ⟨[(2,.ref (0,2) 1 0 0),(3,.ref (0,3) 1 0 0),(4,.ref (0,4) 1 0 0),(5,.ref (0,5) 1 0 0),(6,.i done.length)],(2,.box [.sl false 1 (E)]) :: (3,.box [B]) :: (4,.box [.nils]) :: (5,.box [Y]) :: YL,[]⟩ =
      some (.exit 0,⟨[(2,.ref (0,2) 1 0 0),(3,.ref (0,3) 1 0 0),(4,.ref (0,4) 1 0 0),(5,.ref (0,5) 1 0 0),(6,.i a.length),(16,.b false)],(2,.box [.sl false 1 (E)]) :: (3,.box [B]) :: (4,.box [.nils]) :: (5,.box [Y']) :: YL',[]⟩)
  | [],done,hd,Y,YL,hY => by
    rw [List.append_nil] at hd
    subst hd
    refine ⟨Y,YL,hY, ?_⟩
    rw [loopI_eq]
    rcases hY with ⟨h1,rfl,rfl⟩ | ⟨h1,rfl,rfl⟩
    · simp [r17l0,b17l0,hB,hE.1]
    · simp [r17l0,b17l0,hB,hE.1]
  | x :: rest,done,hd,Y,YL,hY => by
    have hrl : a.length = done.length + (rest.length + 1) := by rw [hd]; simp
    have hlt : (done.length : Int) < a.length := by omega
    have hlt2 : done.length < a.length := by omega
    have hw : IntKind.i64.wrap ((done.length : Int) + 1) = (done.length : Int) + 1 := wr (by omega)
    have hdl : done.length ≤ 4294967295 := by omega
    have hEl := hE.1
    have hgd : a.getD done.length [] = x := by rw [hd]; simp
    obtain ⟨nl,hat⟩ := hE.2 done.length hlt2
    rw [hgd] at hat
    have hx : x.length ≤ 1048576 := hs.2 x (by rw [hd]; simp)
    have hx2 : x.length ≤ 4294967296 := by omega
    have hnew : encGs false false (done ++ [x]) = encGs false false done ++ [encL false false x] := by simp [encGs]
    have hYn : OwnS 29 1 (.own (0,29) (done.length + 1)) [(29,.row 1 (encGs false false done ++ [encL false false x]))] (encGs false false (done ++ [x])) := by
      refine .inr ⟨by rw [hnew]; simp, ?_, ?_⟩
      · rw [hnew]; simp
      · rw [hnew]
    obtain ⟨Y',YL',hY',hn⟩ := loopBo0 E B hB a hE h60 hs rest (done ++ [x]) (by simpa using hd) _ _ hYn
    refine ⟨Y',YL',hY', ?_⟩
    clear hY'
    simp only [List.length_append,List.length_cons,List.length_nil,Int.natCast_add,show ((0 + 1 : Nat) : Int) = 1 from rfl] at hn
    have e1 : x = [] → encL nl false x = .nils ∨ encL nl false x = .sl false 2 [] := by rintro rfl; cases nl <;> simp [encL]
    rw [loopI_eq]
    by_cases hxe : x = []
    · have hnx : encL false false x = .sl false 2 [] := by rw [hxe]; rfl
      rw [hnx] at hn
      rcases hY with ⟨h1,rfl,rfl⟩ | ⟨h1,rfl,rfl⟩
      · have hd0 : done = [] := by cases done with | nil => rfl | cons p q => simp [encGs] at h1
        subst hd0
        have hlt0 : 0 < a.length := by omega
        rcases e1 hxe with e | e
        all_goals
          rw [e] at hat
          simp at hn hat
          simp [r17l0,b17l0,hB,hEl,hlt,hlt2,hlt0,hw,hat,wr1]
          simpa [encGs] using hn
      · rcases e1 hxe with e | e
        all_goals
          rw [e] at hat
          simp [r17l0,b17l0,hB,hEl,hlt,hlt2,hw,hat,hdl]
          simpa [encGs] using hn
    · have hnx : encL false false x = .sl false 2 (x.map mvP) := encL_ne hxe
      have hnx2 : encL nl false x = .sl false 2 (x.map mvP) := encL_ne hxe
      rw [hnx] at hn
      rw [hnx2] at hat
      rcases hY with ⟨h1,rfl,rfl⟩ | ⟨h1,rfl,rfl⟩
      · have hd0 : done = [] := by cases done with | nil => rfl | cons p q => simp [encGs] at h1
        subst hd0
        have hlt0 : 0 < a.length := by omega
        simp at hn hat
        simp [r17l0,b17l0,hB,hEl,hlt,hlt2,hlt0,hw,hat,wr1,hxe,hx2,fals_mvP]
        simpa [encGs] using hn
      · simp [r17l0,b17l0,hB,hEl,hlt,hlt2,hw,hat,hdl,hxe,hx2,fals_mvP]
        simpa [encGs] using hn
end Go.Am
end
section
set_option maxRecDepth 10000
set_option maxHeartbeats 1000000
set_option linter.unusedSimpArgs false
set_option linter.unusedVariables false
namespace Go.Am
open Go.Proofs Go.Sort Go.Shelf
theorem loopBo1 (E X : List PV) (b : Gr) (hE : EncR false E b) (k : Int) (hk : 0 ≤ k ∧ k ≤ 1000) (j : Nat) (hj : j < b.length) (hjb : j ≤ 100000) (row : List Mv) (hrow : b.getD j [] = row) (hr : ∀ x ∈ row,0 ≤ x.2 ∧ x.2 ≤ 1000) (hrl : row.length ≤ 1048576) : ∀ (rest done : List Mv),row = done ++ rest →
    loopI G [3,4,5,7,8,9,10] [3,4,5,29,41,75,80] c17l1 ⟨[(3,.ref (0,3) 1 0 0),(4,.ref (0,4) 1 0 0),(5,.ref (0,5) 1 0 0),(7,.i k),(8,.i j),(9,owP 75 (shL k done)),(10,.i done.length)],(3,.box [.sl false 1 E]) :: (4,.box [.nils]) :: (5,.box [.own (0,29) X.length]) :: (29,.row 1 X) :: owL 75 (shL k done),[]⟩ =
      some (.exit 4,⟨[(3,.ref (0,3) 1 0 0),(4,.ref (0,4) 1 0 0),(5,.ref (0,5) 1 0 0),(7,.i k),(8,.i j),(9,owP 75 (shL k row)),(10,.i row.length),(49,.b false)],(3,.box [.sl false 1 E]) :: (4,.box [.nils]) :: (5,.box [.own (0,29) X.length]) :: (29,.row 1 X) :: owL 75 (shL k row),[]⟩)
  | [],done,hd => by
    rw [List.append_nil] at hd
    subst hd
    have hEl := hE.1
    obtain ⟨nl,hat⟩ := hE.2 j hj
    rw [hrow] at hat
    have hji : (j : Int) < b.length := by omega
    rw [loopI_eq]
    rcases encL_two nl false row with ⟨e,e2⟩ | e
    · rw [e] at hat
      subst e2
      simp [r17l1,b17l1,hEl,hj,hji,hat,shL]
    · rw [e] at hat
      by_cases hd : row = []
      · rw [hd] at hat ⊢
        simp at hat
        simp [r17l1,b17l1,hEl,hj,hji,hat,shL]
      · have hp : owP 75 (shL k row) = .own (0,75) row.length := by simp [owP,shL,hd]
        have ho : owL 75 (shL k row) = [(75,.row 2 ((shL k row).map mvP))] := by simp [owL,shL,hd]
        simp [r17l1,b17l1,hEl,hj,hji,hat,hp,ho]
  | x :: rest,done,hd => by
    have hEl := hE.1
    obtain ⟨nl,hat⟩ := hE.2 j hj
    rw [hrow] at hat
    have hji : (j : Int) < b.length := by omega
    have hx := hr x (by rw [hd]; simp)
    have hen : encL nl false row = .sl false 2 (row.map mvP) := encL_ne (by rw [hd]; simp)
    rw [hen] at hat
    have hrl2 : row.length = done.length + (rest.length + 1) := by rw [hd]; simp
    have hlt : (done.length : Int) < row.length := by omega
    have hlt2 : done.length < row.length := by omega
    have hw : IntKind.i64.wrap ((done.length : Int) + 1) = (done.length : Int) + 1 := wr (by omega)
    have hw2 : IntKind.i64.wrap (x.2 + k) = x.2 + k := wr (by omega)
    have hdl : done.length ≤ 4294967295 := by omega
    have hat2 : nth (row.map mvP) done.length = some (mvP x) := by rw [hd]; exact mv_at done x rest
    have hn := loopBo1 E X b hE k hk j hj hjb row hrow hr hrl rest (done ++ [x]) (by simpa using hd)
    have hml : (row.map mvP).length = row.length := by simp
    generalize hM : row.map mvP = M at hat hat2 hml
    rw [loopI_eq]
    simp only [mvP] at hat2
    by_cases hdn : done = []
    · subst hdn
      simp at hat2 hn hlt
      simp [r17l1,b17l1,hEl,hj,hji,hlt,hlt2,hat,hat2,hml,mvP,unAgg,hw,hw2,hdl,shL,wr1]
      simpa [shL,mvP,Int.add_assoc] using hn
    · have hp : owP 75 (shL k done) = .own (0,75) done.length := by simp [owP,shL,hdn]
      have ho : owL 75 (shL k done) = [(75,.row 2 ((shL k done).map mvP))] := by simp [owL,shL,hdn]
      rw [hp,ho]
      simp [r17l1,b17l1,hEl,hj,hji,hlt,hlt2,hat,hat2,hml,mvP,unAgg,hw,hw2,hdl]
      simpa [shL,mvP,Int.add_assoc] using hn
theorem loopBo2 (E XA : List PV) (hXA : XA.length ≤ 100000) (b : Gr) (hE : EncR false E b) (hb : b.length ≤ 100000) (hs : SmallG b) (hto : ∀ l ∈ b,∀ m ∈ l,0 ≤ m.2 ∧ m.2 ≤ 1000) (k : Int) (hk : 0 ≤ k ∧ k ≤ 1000) : ∀ (rest done : Gr),b = done ++ rest →
    loopI G [3,4,5,7,8] [3,4,5,29,80] c17l2 ⟨[(3,.ref (0,3) 1 0 0),(4,.ref (0,4) 1 0 0),(5,.ref (0,5) 1 0 0),(7,.i k),(8,.i done.length)],[(3,.box [.sl false 1 E]),(4,.box [.nils]),(5,.box [.own (0,29) (XA ++ encGs true false (done.map (shL k))).length]),(29,.row 1 (XA ++ encGs true false (done.map (shL k))))],[]⟩ =
      some (.exit 2,⟨[(3,.ref (0,3) 1 0 0),(4,.ref (0,4) 1 0 0),(5,.ref (0,5) 1 0 0),(7,.i k),(8,.i b.length),(38,.b false)],[(3,.box [.sl false 1 E]),(4,.box [.nils]),(5,.box [.own (0,29) (XA ++ encGs true false (b.map (shL k))).length]),(29,.row 1 (XA ++ encGs true false (b.map (shL k))))],[]⟩)
  | [],done,hd => by
    rw [List.append_nil] at hd
    subst hd
    rw [loopI_eq]
    simp [r17l2,b17l2,hE.1]
  | x :: rest,done,hd => by
    have hEl := hE.1
    have hrl : b.length = done.length + (rest.length + 1) := by rw [hd]; simp
    have hlt : (done.length : Int) < b.length := by omega
    have hlt2 : done.length < b.length := by omega
    have hw : IntKind.i64.wrap ((done.length : Int) + 1) = (done.length : Int) + 1 := wr (by omega)
    have hx : x ∈ b := by rw [hd]; simp
    have hgd : b.getD done.length [] = x := by rw [hd]; simp
    have hXl : (XA ++ encGs true false (done.map (shL k))).length ≤ 4294967295 := by simp; omega
    have hn := loopBo2 E XA hXA b hE hb hs hto k hk rest (done ++ [x]) (by simpa using hd)
    have hnew : XA ++ encGs true false ((done ++ [x]).map (shL k)) = (XA ++ encGs true false (done.map (shL k))) ++ [encL true false (shL k x)] := by simp [encGs]
    rw [hnew] at hn
    generalize hXX : XA ++ encGs true false (done.map (shL k)) = X at hn hXl ⊢
    have h1 := loopBo1 E X b hE k hk done.length hlt2 (by omega) x hgd (fun m hm => hto x hx m hm) (hs.2 x hx) x [] rfl
    simp only [List.length_nil,show ((0 : Nat) : Int) = 0 from rfl,show shL k [] = [] from rfl,owP_n,owL_n] at h1
    simp only [List.length_append,List.length_cons,List.length_nil,Int.natCast_add,show ((0 + 1 : Nat) : Int) = 1 from rfl,Nat.zero_add] at hn
    rw [loopI_eq]
    by_cases hxe : x = []
    · subst hxe
      simp [shL] at h1 hn
      simp [r17l2,b17l2,hEl,hlt,hlt2,hw,h1,hXl,fals_mvP]
      simpa using hn
    · have hp : owP 75 (shL k x) = .own (0,75) x.length := by simp [owP,shL,hxe]
      have ho : owL 75 (shL k x) = [(75,.row 2 ((shL k x).map mvP))] := by simp [owL,shL,hxe]
      have he : encL true false (shL k x) = .sl false 2 ((shL k x).map mvP) := encL_ne (by simp [shL,hxe])
      rw [he] at hn
      rw [hp,ho] at h1
      simp [r17l2,b17l2,hEl,hlt,hlt2,hw,h1,hXl,fals_mvP]
      simpa using hn
theorem eqBoth (EA EB : List PV) (a b : Gr) (hA : EncR false EA a) (hB : EncR false EB b) (ha : a ≠ []) (ha2 : a.length ≤ 1000) (hb2 : b.length ≤ 100000) (hsA : SmallG a) (hsB : SmallG b) (hto : ∀ l ∈ b,∀ m ∈ l,0 ≤ m.2 ∧ m.2 ≤ 1000) :
    callI G 17 [.agg [.sl false 1 EA],.agg [.sl false 1 EB]] [] = some (.agg [.sl true 1 (encGs false false a ++ encGs true false (b.map (shL a.length)))],[]) := by
  obtain ⟨Y,YL,hY,l0⟩ := loopBo0 EA (.sl false 1 EB) (by intro f n; simp) a hA (by omega) hsA a [] rfl .nils [] (.inl ⟨rfl,rfl,rfl⟩)
  have l2 := loopBo2 EB (encGs false false a) (by simp; omega) b hB hb2 hsB hto a.length (by omega) b [] rfl
  have hne : encGs false false a ≠ [] := by simp [encGs,ha]
  rcases hY with ⟨q,_⟩ | ⟨_,rfl,rfl⟩
  · exact absurd q hne
  · have e0 : encGs true false [] = [] := rfl
    simp only [List.length_nil,show ((0 : Nat) : Int) = 0 from rfl,List.map_nil,e0,List.append_nil,List.length_append,encGs_len,List.length_map] at l0 l2
    rw [callI_eq]
    simp [body1_eq _ _ (gp 17) g17,c17,a17,l0,l2,hA.1]
end Go.Am
end
section
set_option maxRecDepth 10000
set_option maxHeartbeats 1000000
set_option linter.unusedSimpArgs false
set_option linter.unusedVariables false
namespace Go.Am
open Go.Proofs Go.Sort Go.Shelf
def seenS (n : Nat) (row : List Int) : List PV := (List.range n).map fun k : Nat => PV.b (decide ((k : Int) ∈ row))
@[simp] theorem seenS_len (n : Nat) (row : List Int) : (seenS n row).length = n := by simp [seenS]
theorem seenS_nth {n : Nat} {row : List Int} {x : Int} (h : 0 ≤ x ∧ x < n) : nth (seenS n row) x.toNat = some (.b (decide (x ∈ row))) := by
  unfold nth seenS
  have h1 : x.toNat < n := by omega
  have h2 : ((x.toNat : Nat) : Int) = x := by omega
  simp [h1,h2]
theorem seenS_set {n : Nat} {row : List Int} {x : Int} (h : 0 ≤ x ∧ x < n) : (seenS n row).set x.toNat (.b true) = seenS n (row ++ [x]) := by
  apply List.ext_getElem (by simp)
  intro i h1 h2
  simp only [seenS_len,List.length_set] at h1 h2
  simp only [seenS,List.getElem_set,List.getElem_map,List.getElem_range,List.mem_append,List.mem_singleton]
  by_cases c : x.toNat = i
  · have : (i : Int) = x := by omega
    simp [c,this]
  · have : ¬ (i : Int) = x := by omega
    simp [c,this]
theorem seenS_n (n : Nat) : List.replicate n (PV.b false) = seenS n [] := by
  apply List.ext_getElem (by simp)
  intro i h1 h2
  simp [seenS]
theorem loopFr0 (E : List PV) (j : Int) (n : Nat) : ∀ (rest done : List Mv) (row : List Int),(∀ m ∈ rest,0 ≤ m.2 ∧ m.2 < n) → (done ++ rest).length ≤ 4294967296 → row.length + rest.length ≤ 4294967296 → ∀ nl,
    loopI G [2,5,6,7,8,9] [2,11,15,62] c51l0 ⟨[(2,.ref (0,2) 1 0 0),(5,.own (0,11) row.length),(6,.own (0,15) n),(7,.i j),(8,encL nl false (done ++ rest)),(9,.i done.length)],[(2,.box [PV.sl false 1 E]),(11,.row 1 (row.map PV.i)),(15,.row 1 (seenS n row))],[]⟩ =
      some (.exit 2,⟨[(2,.ref (0,2) 1 0 0),(5,.own (0,11) (addNew row rest).length),(6,.own (0,15) n),(7,.i j),(8,encL nl false (done ++ rest)),(9,.i (done ++ rest).length),(36,.b false)],[(2,.box [PV.sl false 1 E]),(11,.row 1 ((addNew row rest).map PV.i)),(15,.row 1 (seenS n (addNew row rest)))],[]⟩)
  | [],done,row,hm,h,hr,nl => by
    rw [List.append_nil] at h ⊢
    rw [loopI_eq]
    rcases encL_two nl false done with ⟨e,e2⟩ | e
    · rw [e]; subst e2
      simp [r51l0,b51l0,addNew]
    · rw [e]
      simp [r51l0,b51l0,addNew]
  | x :: rest,done,row,hm,h,hr,nl => by
    have hx := hm x List.mem_cons_self
    have hlt : (done.length : Int) < (done.length : Int) + ((rest.length : Int) + 1) := by omega
    have hw : IntKind.i64.wrap ((done.length : Int) + 1) = (done.length : Int) + 1 := wr (by simp at h; omega)
    have hrl : row.length ≤ 4294967295 := by simp at hr; omega
    have hat := mv_at done x rest
    have hsn := seenS_nth (row := row) hx
    have hss := seenS_set (row := row) hx
    have hen : encL nl false (done ++ x :: rest) = .sl false 2 ((done ++ x :: rest).map mvP) := encL_ne (by simp)
    have hn := fun row' hr' => loopFr0 E j n rest (done ++ [x]) row' (fun y hy => hm y (List.mem_cons_of_mem _ hy)) (by simpa using h) hr' nl
    have e1 : done ++ [x] ++ rest = done ++ x :: rest := by simp
    simp only [e1] at hn
    rw [hen] at hn ⊢
    rw [loopI_eq]
    simp only [mvP,List.map_append,List.map_cons] at hat
    by_cases hmm : x.2 ∈ row
    · have hn := hn row (by simp at hr; omega)
      simp only [hmm,decide_true] at hsn
      simp [r51l0,b51l0,hlt,hat,mvP,unAgg,hw,hrl,hsn,hx.1,hx.2,hmm,addNew]
      simpa [mvP,Int.add_assoc] using hn
    · have hn := hn (row ++ [x.2]) (by simp at hr ⊢; omega)
      simp only [hmm,decide_false] at hsn
      simp [r51l0,b51l0,hlt,hat,mvP,unAgg,hw,hrl,hsn,hss,hx.1,hx.2,hmm,addNew]
      simpa [mvP,Int.add_assoc] using hn
theorem loopFr1 (E : List PV) (g : Gr) (hE : EncR false E g) (hg : OkTo g) (hs : SmallG g) : ∀ (f i : Nat) (row : List Int),InN g.length row → i ≤ row.length → g.length + 1 ≤ i + f →
    ∀ x8 x9,loopI G [2,5,6,7] [2,11,15,62] c51l1 ⟨(2,.ref (0,2) 1 0 0) :: (5,.own (0,11) row.length) :: (6,.own (0,15) g.length) :: (7,.i i) :: (x8 ++ x9),[(2,.box [PV.sl false 1 E]),(11,.row 1 (row.map PV.i)),(15,.row 1 (seenS g.length row))],[]⟩ =
      some (.exit 0,⟨[(2,.ref (0,2) 1 0 0),(5,.own (0,11) (bfs g f i row).length),(6,.own (0,15) g.length),(7,.i (bfs g f i row).length),(22,.b false)],[(2,.box [PV.sl false 1 E]),(11,.row 1 ((bfs g f i row).map PV.i)),(15,.row 1 (seenS g.length (bfs g f i row)))],[]⟩)
  | 0,i,row,hr,hi,hf,x8,x9 => by have := hr.len; omega
  | f + 1,i,row,hr,hi,hf,x8,x9 => by
    have hl := hr.len
    have hgl := hs.1
    by_cases h : i < row.length
    · have hlt : (i : Int) < row.length := by omega
      have hx := hr.2 _ (getD_mem h)
      have hat := int_nth row i h
      generalize hxe : row.getD i 0 = x at hx hat
      have hxl : x < g.length := hx.2
      have hxn : x.toNat < g.length := by omega
      obtain ⟨nl,hat2⟩ := hE.2 x.toNat hxn
      have hEl := hE.1
      have hrow : ∀ m ∈ g.getD x.toNat [],0 ≤ m.2 ∧ m.2 < g.length := hg.row _
      have hrl : (g.getD x.toNat []).length ≤ 1048576 := hs.2 _ (by rw [List.getD_eq_getElem?_getD,List.getElem?_eq_getElem hxn,Option.getD_some]; exact List.getElem_mem hxn)
      have hb : bfs g (f + 1) i row = bfs g f (i + 1) (addNew row (g.getD x.toNat [])) := by simp [bfs,h,← hxe]
      rw [hb]
      generalize hL : g.getD x.toNat [] = L at hat2 hrow hrl
      have h0 := loopFr0 E i g.length L [] row hrow (by simp; omega) (by omega) nl
      simp only [List.nil_append,List.length_nil,show ((0 : Nat) : Int) = 0 from rfl] at h0
      have hn := loopFr1 E g hE hg hs f (i + 1) (addNew row L) (hr.add hrow) (by have := addNew_len L row; omega) (by omega) [] []
      have hw : IntKind.i64.wrap ((i : Int) + 1) = (i : Int) + 1 := wr (by omega)
      rw [loopI_eq]
      rcases encL_two nl false L with ⟨e,e2⟩ | e
      · rw [e] at hat2 h0
        subst e2
        simp only [List.length_nil,show ((0 : Nat) : Int) = 0 from rfl] at h0
        simp [r51l1,b51l1,h,hlt,hat,hat2,hx.1,hxl,h0,hw,hEl]
        simpa using hn
      · rw [e] at hat2 h0
        simp [r51l1,b51l1,h,hlt,hat,hat2,hx.1,hxl,h0,hw,hEl]
        simpa using hn
    · have he : i = row.length := by omega
      have hb : bfs g (f + 1) i row = row := by simp [bfs,h]
      rw [hb,loopI_eq]
      subst he
      simp [r51l1,b51l1]
theorem eqFrom (E : List PV) (g : Gr) (hE : EncR false E g) (hg : OkTo g) (hs : SmallG g) (s : Int) (h : 0 ≤ s ∧ s < g.length) :
    callI G 51 [.agg [.sl false 1 E],.i s] [] = some (.sl true 1 ((reach g s).map PV.i),[]) := by
  have hl := loopFr1 E g hE hg hs (g.length + 1) 0 [s] (InN.one h) (by simp) (by omega) [] []
  have hgl := hs.1
  have hEl := hE.1
  simp only [show ((0 : Nat) : Int) = 0 from rfl,List.length_cons,List.length_nil,List.map_cons,List.map_nil,List.append_nil,Nat.zero_add] at hl
  have hz := seenS_n g.length
  have hst := seenS_set (row := []) h
  simp only [List.nil_append] at hst
  have hn := seenS_nth (row := []) h
  have h4 : g.length ≤ 4294967296 := by omega
  have h5 : (g.length : Int) ≤ 4294967296 := by omega
  rw [callI_eq]
  simp [body1_eq _ _ (gp 51) g51,c51,a51,hl,hEl,hz,hst,hn,h.1,h.2,reach,h4,h5,unAgg]
end Go.Am
end
section
set_option maxRecDepth 10000
set_option maxHeartbeats 1000000
set_option linter.unusedSimpArgs false
set_option linter.unusedVariables false
namespace Go.Am
open Go.Proofs Go.Sort Go.Shelf
theorem owP_ne {d : Nat} {l : List Mv} (h : l ≠ []) : owP d l = .own (0,d) l.length := by simp [owP,h]
theorem owL_ne {d : Nat} {l : List Mv} (h : l ≠ []) : owL d l = [(d,.row 2 (l.map mvP))] := by simp [owL,h]
theorem loopSo0 (L : List PV) (i : Nat) (x : Mv) (hi : i < L.length) (hx : nth L i = some (mvP x)) (O : List Mv) (hO : O.length ≤ 1048576) : ∀ (n : Nat) (p q : List Mv),p.length = n → O = p ++ q → (∀ y ∈ q,ltM x y = true) →
    ∃ p' q',O = p' ++ q' ∧ (∀ y ∈ q',ltM x y = true) ∧ (∀ z,p'.getLast? = some z → ltM x z = false) ∧
    loopI G [0,3,4,5] [7,49] c18l0 ⟨[(0,.sl false 2 L),(3,owP 49 O),(4,.i i),(5,.i p.length)],owL 49 O,[]⟩ =
      some (.exit 2,⟨[(0,.sl false 2 L),(3,owP 49 O),(4,.i i),(5,.i p'.length),(29,.b false)],owL 49 O,[]⟩)
  | 0,p,q,hn,hO2,hq => by
    have hp : p = [] := List.length_eq_zero_iff.1 hn
    subst hp
    rw [List.nil_append] at hO2
    subst hO2
    refine ⟨[],O,rfl,hq,(by intro z hz; cases hz), ?_⟩
    rw [loopI_eq]
    by_cases hd : O = []
    · subst hd
      simp [r18l0,b18l0]
    · rw [owP_ne hd,owL_ne hd]
      simp [r18l0,b18l0]
  | n + 1,p,q,hn,hO2,hq => by
    rcases last_cases p with ⟨h1,_⟩ | ⟨p0,z,h1,hgl⟩
    · subst h1; cases hn
    · subst h1
      have hn0 : p0.length = n := by simpa using hn
      have hne : O ≠ [] := by rw [hO2]; simp
      have hle := eqLess x z
      have hOl : O.length = p0.length + (1 + q.length) := by rw [hO2]; simp; omega
      have hat : nth (O.map mvP) p0.length = some (mvP z) := by
        rw [hO2,List.append_assoc]; exact mv_at p0 z q
      have hlt : (p0.length : Int) < O.length := by omega
      have hlt2 : p0.length < O.length := by omega
      have hw : IntKind.i64.wrap ((p0.length : Int) + 1 - 1) = p0.length := by rw [wr (by omega)]; omega
      have hw3 : IntKind.i64.wrap (p0.length : Int) = (p0.length : Int) := wr (by omega)
      have hpos : (0 : Int) < (p0.length : Int) + 1 := by omega
      have hpl : ((p0 ++ [z]).length : Int) = (p0.length : Int) + 1 := by simp
      have hi2 : (i : Int) < L.length := by omega
      rw [hpl,owP_ne hne,owL_ne hne]
      simp only [mvP] at hx hle hat
      have hml : (O.map mvP).length = O.length := by simp
      cases hv : ltM x z with
      | true =>
        rw [hv] at hle
        obtain ⟨p',q',a1,a2,a3,a4⟩ := loopSo0 L i x hi hx O hO n p0 (z :: q) hn0 (by rw [hO2]; simp) (fun y hy => by rcases List.mem_cons.1 hy with rfl | hy; exact hv; exact hq y hy)
        refine ⟨p',q',a1,a2,a3, ?_⟩
        rw [owP_ne hne,owL_ne hne] at a4
        generalize hM : O.map mvP = M at hat hml a4 ⊢
        rw [loopI_eq]
        simp [r18l0,b18l0,hpos,hi,hi2,hx,hml,hw,hw3,hlt,hlt2,hat,hle]
        simpa using a4
      | false =>
        rw [hv] at hle
        refine ⟨p0 ++ [z],q,hO2,hq,(fun y hy => by rw [hgl] at hy; cases hy; exact hv), ?_⟩
        rw [hpl]
        generalize hM : O.map mvP = M at hat hml ⊢
        rw [loopI_eq]
        simp [r18l0,b18l0,hpos,hi,hi2,hx,hml,hw,hw3,hlt,hlt2,hat,hle]
theorem loopSo1 (L : List PV) (i : Int) (p : List Mv) (N : Nat) (hN : N ≤ 1048577) : ∀ (n : Nat) (q1 : List Mv) (w : Mv) (q2 : List Mv),q1.length = n → p.length + q1.length + 1 + q2.length = N →
    ∃ w' : Mv,loopI G [0,3,4,5,6] [7,49] c18l1 ⟨[(0,.sl false 2 L),(3,.own (0,49) N),(4,.i i),(5,.i p.length),(6,.i (p.length + q1.length))],[(49,.row 2 ((p ++ (q1 ++ w :: q2)).map mvP))],[]⟩ =
      some (.exit 4,⟨[(0,.sl false 2 L),(3,.own (0,49) N),(4,.i i),(5,.i p.length),(6,.i p.length),(55,.b false)],[(49,.row 2 ((p ++ w' :: (q1 ++ q2)).map mvP))],[]⟩)
  | 0,q1,w,q2,hn,hl => by
    have hq : q1 = [] := List.length_eq_zero_iff.1 hn
    subst hq
    refine ⟨w, ?_⟩
    rw [loopI_eq]
    simp [r18l1,b18l1]
  | n + 1,q1,w,q2,hn,hl => by
    rcases last_cases q1 with ⟨h1,_⟩ | ⟨q0,z,h1,hgl⟩
    · subst h1; cases hn
    · subst h1
      have hn0 : q0.length = n := by simpa using hn
      have hl0 : p.length + q0.length + 1 + (z :: q2).length = N := by simp at hl ⊢; omega
      obtain ⟨w',hnx⟩ := loopSo1 L i p N hN n q0 z (z :: q2) hn0 hl0
      refine ⟨w', ?_⟩
      simp only [List.length_cons] at hl0
      have hj : (p.length : Int) + ((q0 ++ [z]).length : Int) = (p.length : Int) + q0.length + 1 := by simp; omega
      have hgt : (p.length : Int) < (p.length : Int) + q0.length + 1 := by omega
      have hw : IntKind.i64.wrap ((p.length : Int) + q0.length + 1 - 1) = (p.length : Int) + q0.length := by rw [wr (by omega)]; omega
      have hw2 : IntKind.i64.wrap ((p.length : Int) + q0.length) = (p.length : Int) + q0.length := wr (by omega)
      have hge : (0 : Int) ≤ (p.length : Int) + q0.length := by omega
      have hge1 : (0 : Int) ≤ (p.length : Int) + q0.length + 1 := by omega
      have hlt : (p.length : Int) + q0.length < N := by omega
      have hlt1 : (p.length : Int) + q0.length + 1 < N := by omega
      have htn : ((p.length : Int) + q0.length).toNat = p.length + q0.length := by omega
      have htn1 : ((p.length : Int) + q0.length + 1).toNat = p.length + q0.length + 1 := by omega
      have hml : ((p ++ (q0 ++ [z] ++ w :: q2)).map mvP).length = N := by simp; omega
      have hat : nth ((p ++ (q0 ++ [z] ++ w :: q2)).map mvP) (p.length + q0.length) = some (mvP z) := by
        have := at_D ((p ++ q0).map mvP) (mvP z) ((w :: q2).map mvP) (p.length + q0.length) (by simp)
        simpa using this
      have hat1 : nth ((p ++ (q0 ++ [z] ++ w :: q2)).map mvP) (p.length + q0.length + 1) = some (mvP w) := by
        have := at_D ((p ++ (q0 ++ [z])).map mvP) (mvP w) (q2.map mvP) (p.length + q0.length + 1) (by simp; omega)
        simpa using this
      have hst : ((p ++ (q0 ++ [z] ++ w :: q2)).map mvP).set (p.length + q0.length + 1) (mvP z) = (p ++ (q0 ++ z :: z :: q2)).map mvP := by
        have := set_D ((p ++ (q0 ++ [z])).map mvP) (mvP w) (mvP z) (q2.map mvP) (p.length + q0.length + 1) (by simp; omega)
        simpa using this
      rw [hj]
      generalize hM : (p ++ (q0 ++ [z] ++ w :: q2)).map mvP = M at hat hat1 hst hml ⊢
      have hr : (p ++ w' :: (q0 ++ [z] ++ q2)).map mvP = (p ++ w' :: (q0 ++ z :: q2)).map mvP := by simp
      rw [hr]
      simp only [mvP] at hat hat1 hst
      generalize hM2 : (p ++ (q0 ++ z :: z :: q2)).map mvP = M2 at hst hnx
      generalize hM3 : (p ++ w' :: (q0 ++ z :: q2)).map mvP = M3 at hnx ⊢
      rw [loopI_eq]
      simp [r18l1,b18l1,hgt,hw,hw2,hge,hge1,hlt,hlt1,htn,htn1,hml,hat,hat1,unAgg,hst]
      exact hnx
def Sd (l : List Mv) : Prop := l.Pairwise fun a b => ltM a b = true
theorem ltM_tr {a b d : Mv} (h : ltM a b = true) (k : ltM b d = true) : ltM a d = true := by
  have h := (ltM_iff a b).1 h
  have k := (ltM_iff b d).1 k
  refine (ltM_iff a d).2 ?_
  omega
theorem ltM_irr (a : Mv) : ltM a a = false := (ltM_false a a).2 (by omega)
theorem ltM_as {a b : Mv} (h : ltM a b = true) : ltM b a = false := by
  have h := (ltM_iff a b).1 h
  exact (ltM_false b a).2 (by omega)
theorem ltM_eq {a b : Mv} (h : ltM a b = false) (k : ltM b a = false) : a = b := by
  have h := (ltM_false a b).1 h
  have k := (ltM_false b a).1 k
  exact Prod.ext (by omega) (by omega)
theorem Sd_split {p q : List Mv} {x : Mv} (h : Sd (p ++ q)) (hq : ∀ y ∈ q,ltM x y = true) (hp : ∀ z,p.getLast? = some z → ltM z x = true) : Sd (p ++ x :: q) := by
  have h := List.pairwise_append.1 h
  refine List.pairwise_append.2 ⟨h.1,List.pairwise_cons.2 ⟨hq,h.2.1⟩,fun a ha b hb => ?_⟩
  rcases List.mem_cons.1 hb with rfl | hb
  · rcases last_cases p with ⟨e,_⟩ | ⟨p0,z,e,hg⟩
    · subst e; cases ha
    · have hz := hp z hg
      subst e
      rcases List.mem_append.1 ha with ha | ha
      · exact ltM_tr ((List.pairwise_append.1 h.1).2.2 a ha z (by simp)) hz
      · rw [List.mem_singleton] at ha; subst ha; exact hz
  · exact h.2.2 a ha b hb
end Go.Am
end
