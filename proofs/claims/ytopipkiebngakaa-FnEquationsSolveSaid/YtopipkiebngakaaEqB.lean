/- What the functions that the law reaches compute. -/
import Derived.Test.YtopipkiebngakaaEqA
section
set_option maxRecDepth 10000
set_option linter.unusedSimpArgs false
set_option linter.unusedVariables false
namespace Go.Am
open Go.Proofs Go.Sort Go.Shelf
def shL (k : Int) (l : List Mv) : List Mv := l.map fun x => (x.1,x.2 + k)
@[simp] theorem shL_len (k : Int) (l : List Mv) : (shL k l).length = l.length := by simp [shL]
def owP (d : Nat) (l : List Mv) : PV := if l = [] then .nils else .own (0,d) l.length
def owL (d : Nat) (l : List Mv) : Objs := if l = [] then [] else [(d,.row 2 (l.map mvP))]
@[simp] theorem owP_n (d : Nat) : owP d [] = .nils := rfl
@[simp] theorem owL_n (d : Nat) : owL d [] = [] := rfl
@[simp] theorem owP_c (d : Nat) (x : Mv) (l : List Mv) : owP d (x :: l) = .own (0,d) (l.length + 1) := rfl
@[simp] theorem owL_c (d : Nat) (x : Mv) (l : List Mv) : owL d (x :: l) = [(d,.row 2 (mvP x :: l.map mvP))] := rfl
@[simp] theorem owP_s (d : Nat) (a : List Mv) (x : Mv) (l : List Mv) : owP d (a ++ x :: l) = .own (0,d) (a.length + (l.length + 1)) := by simp [owP]
@[simp] theorem owL_s (d : Nat) (a : List Mv) (x : Mv) (l : List Mv) : owL d (a ++ x :: l) = [(d,.row 2 (a.map mvP ++ mvP x :: l.map mvP))] := by simp [owL]
theorem wr1 : IntKind.i64.wrap 1 = 1 := by rfl
theorem loopSh (k : Int) (hk : 0 ≤ k ∧ k ≤ 1000) : ∀ (rest done : List Mv),(∀ x ∈ rest,0 ≤ x.2 ∧ x.2 ≤ 1000) → (done ++ rest).length ≤ 4294967296 →
    loopI G [1,5,9,10,11] [8,24] c20l0 ⟨[(1,.i k),(5,owP 24 (shL k done)),(9,.sl false 2 ((done ++ rest).map mvP)),(10,.i (done ++ rest).length),(11,.i done.length)],owL 24 (shL k done),[]⟩ =
      some (.exit 0,⟨[(1,.i k),(5,owP 24 (shL k (done ++ rest))),(9,.sl false 2 ((done ++ rest).map mvP)),(10,.i (done ++ rest).length),(11,.i (done ++ rest).length),(12,.b false)],owL 24 (shL k (done ++ rest)),[]⟩)
  | [],done,hr,h => by
    rw [loopI_eq]
    rcases done with _ | ⟨y,done⟩
    · simp [r20l0,b20l0,shL]
    · simp [r20l0,b20l0,shL]
  | x :: rest,done,hr,h => by
    have hx := hr x List.mem_cons_self
    have hlt : (done.length : Int) < (done.length : Int) + ((rest.length : Int) + 1) := by omega
    have hw : IntKind.i64.wrap ((done.length : Int) + 1) = (done.length : Int) + 1 := wr (by simp at h; omega)
    have hw2 : IntKind.i64.wrap (x.2 + k) = x.2 + k := wr (by omega)
    have hdl : done.length ≤ 4294967295 := by simp at h; omega
    have hat := mv_at done x rest
    have hn := loopSh k hk rest (done ++ [x]) (fun y hy => hr y (List.mem_cons_of_mem _ hy)) (by simpa using h)
    rw [loopI_eq]
    simp only [mvP,List.map_append,List.map_cons] at hat
    by_cases hd : done = []
    · subst hd
      simp at hat hn
      simp [r20l0,b20l0,hlt,hat,mvP,unAgg,hw,hw2,hdl,shL,wr1]
      simpa [shL,mvP,Int.add_assoc] using hn
    · have hp : ∀ f : List Mv → List Mv,owP 24 (shL k done) = .own (0,24) done.length := fun _ => by simp [owP,shL,hd]
      have ho : owL 24 (shL k done) = [(24,.row 2 ((shL k done).map mvP))] := by simp [owL,shL,hd]
      rw [hp id,ho]
      simp [r20l0,b20l0,hlt,hat,mvP,unAgg,hw,hw2,hdl]
      simpa [shL,mvP,Int.add_assoc] using hn
theorem eqShift (k : Int) (hk : 0 ≤ k ∧ k ≤ 1000) (l : List Mv) (hr : ∀ x ∈ l,0 ≤ x.2 ∧ x.2 ≤ 1000) (h : l.length ≤ 4294967296) :
    callI G 20 [.sl false 2 (l.map mvP),.i k] [] = some (encL true true (shL k l),[]) := by
  have hl := loopSh k hk l [] hr (by simpa using h)
  simp only [List.nil_append,List.length_nil,show ((0 : Nat) : Int) = 0 from rfl,show shL k [] = [] from rfl,owP_n,owL_n] at hl
  rw [callI_eq]
  by_cases hd : l = []
  · subst hd
    simp [shL] at hl
    simp [body1_eq _ _ (gp 20) g20,c20,a20,hl,shL]
  · have hp : owP 24 (shL k l) = .own (0,24) l.length := by simp [owP,shL,hd]
    have ho : owL 24 (shL k l) = [(24,.row 2 ((shL k l).map mvP))] := by simp [owL,shL,hd]
    have he : encL true true (shL k l) = .sl true 2 ((shL k l).map mvP) := encL_ne (by simp [shL,hd])
    rw [hp,ho] at hl
    rw [he]
    simp [body1_eq _ _ (gp 20) g20,c20,a20,hl]
end Go.Am
end
section
set_option maxRecDepth 10000
set_option linter.unusedSimpArgs false
set_option linter.unusedVariables false
namespace Go.Am
open Go.Proofs Go.Sort Go.Shelf
def addNew : List Int → List Mv → List Int
  | row,[] => row
  | row,m :: l => addNew (if m.2 ∈ row then row else row ++ [m.2]) l
def bfs (g : Gr) : Nat → Nat → List Int → List Int
  | 0,_,row => row
  | f + 1,i,row => if i < row.length then bfs g f (i + 1) (addNew row (g.getD (row.getD i 0).toNat [])) else row
def reach (g : Gr) (s : Int) : List Int := bfs g (g.length + 1) 0 [s]
def InN (n : Nat) (row : List Int) : Prop := row.Nodup ∧ ∀ x ∈ row,0 ≤ x ∧ x < n
def OkTo (g : Gr) : Prop := ∀ l ∈ g,∀ m ∈ l,0 ≤ m.2 ∧ m.2 < g.length
theorem nodup_le : ∀ (l m : List Nat),l.Nodup → (∀ x ∈ l,x ∈ m) → l.length ≤ m.length
  | [],m,_,_ => Nat.zero_le _
  | x :: l,m,hn,hs => by
    have hx := hs x List.mem_cons_self
    have h1 := List.nodup_cons.1 hn
    have := nodup_le l (m.erase x) h1.2 (fun y hy => (List.mem_erase_of_ne (fun e => h1.1 (by rw [← e]; exact hy))).2 (hs y (List.mem_cons_of_mem _ hy)))
    rw [List.length_erase_of_mem hx] at this
    have hm := List.length_pos_of_mem hx
    simp only [List.length_cons]; omega
theorem InN.len {n : Nat} {row : List Int} (h : InN n row) : row.length ≤ n := by
  have := nodup_le (row.map Int.toNat) (List.range n) (by
    unfold List.Nodup
    rw [List.pairwise_map]
    exact List.Pairwise.imp_of_mem (fun {a b} ha hb hab e => hab (by have := h.2 a ha; have := h.2 b hb; omega)) h.1) (fun x hx => by
    obtain ⟨y,hy,rfl⟩ := List.mem_map.1 hx
    have := h.2 y hy
    rw [List.mem_range]; omega)
  simpa using this
theorem InN.add {n : Nat} : ∀ {l : List Mv} {row : List Int},InN n row → (∀ m ∈ l,0 ≤ m.2 ∧ m.2 < n) → InN n (addNew row l)
  | [],row,h,_ => h
  | m :: l,row,h,hl => by
    simp only [addNew]
    refine InN.add ?_ (fun y hy => hl y (List.mem_cons_of_mem _ hy))
    split
    · exact h
    · rename_i hm
      refine ⟨List.nodup_append.2 ⟨h.1,by simp,fun a ha b hb e => hm ?_⟩,fun x hx => ?_⟩
      · rw [List.mem_singleton] at hb; subst hb; subst e; exact ha
      · rcases List.mem_append.1 hx with hx | hx
        · exact h.2 x hx
        · rw [List.mem_singleton] at hx; subst hx; exact hl m List.mem_cons_self
theorem OkTo.row {g : Gr} (h : OkTo g) (i : Nat) : ∀ m ∈ g.getD i [],0 ≤ m.2 ∧ m.2 < g.length := by
  intro m hm
  by_cases hi : i < g.length
  · rw [List.getD_eq_getElem?_getD,List.getElem?_eq_getElem hi,Option.getD_some] at hm
    exact h _ (List.getElem_mem hi) m hm
  · rw [List.getD_eq_getElem?_getD,List.getElem?_eq_none (by omega)] at hm; cases hm
theorem InN.bfs {g : Gr} (hg : OkTo g) : ∀ (f i : Nat) {row : List Int},InN g.length row → InN g.length (bfs g f i row)
  | 0,_,_,h => h
  | f + 1,i,row,h => by
    simp only [Am.bfs]
    split
    · exact InN.bfs hg f (i + 1) (h.add (hg.row _))
    · exact h
theorem InN.one {n : Nat} {s : Int} (h : 0 ≤ s ∧ s < n) : InN n [s] := ⟨by simp,fun x hx => by rw [List.mem_singleton] at hx; subst hx; exact h⟩
theorem gr_nth (nl u : Bool) (g : Gr) (i : Nat) (h : i < g.length) : nth (encGs nl u g) i = some (encL nl u (g.getD i [])) := by
  unfold nth encGs
  simp [List.getElem?_map,List.getElem?_eq_getElem h]
theorem int_nth (row : List Int) (i : Nat) (h : i < row.length) : nth (row.map PV.i) i = some (.i (row.getD i 0)) := by
  unfold nth
  simp [List.getElem?_map,List.getElem?_eq_getElem h]
theorem getD_mem {row : List Int} {i : Nat} (h : i < row.length) : row.getD i 0 ∈ row := by
  rw [List.getD_eq_getElem?_getD,List.getElem?_eq_getElem h,Option.getD_some]
  exact List.getElem_mem h
theorem encL_two (nl u : Bool) (l : List Mv) : (encL nl u l = .nils ∧ l = []) ∨ encL nl u l = .sl u 2 (l.map mvP) := by
  unfold encL
  split
  · rename_i h; simp only [Bool.and_eq_true,List.isEmpty_iff] at h; exact .inl ⟨rfl,h.2⟩
  · exact .inr rfl
def EncR (u : Bool) (E : List PV) (g : Gr) : Prop := E.length = g.length ∧ ∀ i,i < g.length → ∃ nl,nth E i = some (encL nl u (g.getD i []))
theorem encR_G (nl u : Bool) (g : Gr) : EncR u (encGs nl u g) g := ⟨by simp,fun i h => ⟨nl,gr_nth nl u g i h⟩⟩
theorem EncR.app {u : Bool} {E F : List PV} {g h : Gr} (hE : EncR u E g) (hF : EncR u F h) : EncR u (E ++ F) (g ++ h) := by
  refine ⟨by simp [hE.1,hF.1],fun i hi => ?_⟩
  rw [List.length_append] at hi
  by_cases c : i < g.length
  · obtain ⟨nl,e⟩ := hE.2 i c
    refine ⟨nl, ?_⟩
    unfold nth at e ⊢
    rw [List.getElem?_append_left (by rw [hE.1]; exact c),e]
    simp [List.getD_eq_getElem?_getD,List.getElem?_append_left c]
  · obtain ⟨nl,e⟩ := hF.2 (i - g.length) (by omega)
    refine ⟨nl, ?_⟩
    unfold nth at e ⊢
    rw [List.getElem?_append_right (by rw [hE.1]; omega),hE.1,e]
    simp [List.getD_eq_getElem?_getD,List.getElem?_append_right (show g.length ≤ i by omega)]
theorem fals_map : ∀ E : List PV,fals E = E.map fal
  | [] => rfl
  | x :: E => by simp [fals,fals_map E]
theorem EncR.fal {u : Bool} {E : List PV} {g : Gr} (hE : EncR u E g) : EncR false (fals E) g := by
  refine ⟨by rw [fals_map]; simp [hE.1],fun i hi => ?_⟩
  obtain ⟨nl,e⟩ := hE.2 i hi
  refine ⟨nl, ?_⟩
  unfold nth at e ⊢
  rw [fals_map,List.getElem?_map,e,Option.map_some,fal_encL]
end Go.Am
end
section
set_option maxRecDepth 10000
set_option linter.unusedSimpArgs false
set_option linter.unusedVariables false
namespace Go.Am
open Go.Proofs Go.Sort Go.Shelf
def atG : Nat → List Int → Int → Int
  | _,[],_ => 0
  | i,y :: l,x => if y = x then i else atG (i + 1) l x
def atOf (row : List Int) (x : Int) : Int := atG 0 row x
def reT (row : List Int) (l : List Mv) : List Mv := l.map fun m => (m.1,atOf row m.2)
@[simp] theorem reT_len (row : List Int) (l : List Mv) : (reT row l).length = l.length := by simp [reT]
def partG (g : Gr) (s : Int) : Gr := (reach g s).map fun r => tidyL (reT (reach g s) (g.getD r.toNat []))
def made (g : Gr) : Gr × Bool := if (reach g 0).length ≤ 60 then (partG g 0,true) else ([],false)
def OwnS (d k : Nat) (Y : PV) (L : Objs) (xs : List PV) : Prop := (xs = [] ∧ Y = .nils ∧ L = []) ∨ (xs ≠ [] ∧ Y = .own (0,d) xs.length ∧ L = [(d,.row k xs)])
end Go.Am
end
section
set_option maxRecDepth 10000
set_option maxHeartbeats 1000000
set_option linter.unusedSimpArgs false
set_option linter.unusedVariables false
namespace Go.Am
open Go.Proofs Go.Sort Go.Shelf
theorem tidyL_n : tidyL [] = [] := by simp [tidyL,srtM,dd]
theorem tidyL_ne {l : List Mv} (h : l ≠ []) : tidyL l ≠ [] := by
  unfold tidyL
  cases hs : srtM l with
  | nil =>
    have : (srtM l).length = l.length := by simp [srtM]
    rw [hs] at this
    exact absurd (List.length_eq_zero_iff.1 this.symm) h
  | cons x m => simp [dd]
end Go.Am
end
section
set_option maxRecDepth 10000
set_option maxHeartbeats 1000000
set_option linter.unusedSimpArgs false
set_option linter.unusedVariables false
namespace Go.Am
open Go.Proofs Go.Sort Go.Shelf
theorem rowOk_mem {n : Nat} : ∀ {l : List Mv} {p : Option Mv},rowOk n p l = true → ∀ m ∈ l,mvOk n m = true
  | [],_,_,m,hm => by cases hm
  | x :: l,p,h,m,hm => by
    simp only [rowOk,Bool.and_eq_true] at h
    rcases List.mem_cons.1 hm with rfl | hm
    · exact h.1
    · exact rowOk_mem h.2.2 m hm
theorem grOk_to {g : Gr} (h : grOk g = true) : OkTo g ∧ 1 ≤ g.length ∧ g.length ≤ 60 := by
  simp only [grOk,Bool.and_eq_true,decide_eq_true_eq,List.all_eq_true] at h
  refine ⟨fun l hl m hm => ?_,h.1,h.2.1⟩
  have := rowOk_mem (h.2.2 l hl) m hm
  simp only [mvOk,Bool.and_eq_true,decide_eq_true_eq] at this
  exact this.2
theorem noShares_mv : ∀ l : List Mv,noShares (l.map mvP) = true
  | [] => rfl
  | x :: l => by simp [noShares,noShare,mvP]; exact noShares_mv l
theorem noShare_encL (nl : Bool) (l : List Mv) : noShare (encL nl true l) = true := by
  rcases encL_two nl true l with ⟨e,_⟩ | e <;> simp [e,noShare,noShares_mv]
theorem noShares_encGs (nl : Bool) : ∀ g : Gr,noShares (encGs nl true g) = true
  | [] => rfl
  | x :: g => by
    have := noShares_encGs nl g
    simp only [encGs,List.map_cons,noShares] at this ⊢
    simp [this,noShare_encL]
theorem encM_two (nl u : Bool) (g : Gr) : (encM' nl u g = .nils ∧ g = []) ∨ encM' nl u g = .sl u 1 (encGs nl u g) := by
  unfold encM'
  split
  · rename_i h; simp only [Bool.and_eq_true,List.isEmpty_iff] at h; exact .inl ⟨rfl,h.2⟩
  · exact .inr rfl
end Go.Am
end
section
set_option maxRecDepth 10000
set_option maxHeartbeats 1000000
set_option linter.unusedSimpArgs false
set_option linter.unusedVariables false
namespace Go.Am
open Go.Proofs Go.Sort Go.Shelf
def bothG (a b : Gr) : Gr := a ++ b.map (shL a.length)
theorem loopBo0 (E : List PV) (B : PV) (hB : ∀ f n,known f n B = true) (a : Gr) (hE : EncR false E a) (h60 : a.length ≤ 100000) (hs : SmallG a) : ∀ (rest done : Gr),a = done ++ rest → ∀ Y YL,OwnS 29 1 Y YL (encGs false false done) →
    ∃ Y' YL',OwnS 29 1 Y' YL' (encGs false false a) ∧
    loopI G [2,3,4,5,6] [2,3,4,5,29,80] c36l0 ⟨[(2,.ref (0,2) 1 0 0),(3,.ref (0,3) 1 0 0),(4,.ref (0,4) 1 0 0),(5,.ref (0,5) 1 0 0),(6,.i done.length)],(2,.box [.sl false 1 (E)]) :: (3,.box [B]) :: (4,.box [.nils]) :: (5,.box [Y]) :: YL,[]⟩ =
      some (.exit 0,⟨[(2,.ref (0,2) 1 0 0),(3,.ref (0,3) 1 0 0),(4,.ref (0,4) 1 0 0),(5,.ref (0,5) 1 0 0),(6,.i a.length),(16,.b false)],(2,.box [.sl false 1 (E)]) :: (3,.box [B]) :: (4,.box [.nils]) :: (5,.box [Y']) :: YL',[]⟩)
  | [],done,hd,Y,YL,hY => by
    rw [List.append_nil] at hd
    subst hd
    refine ⟨Y,YL,hY, ?_⟩
    rw [loopI_eq]
    rcases hY with ⟨h1,rfl,rfl⟩ | ⟨h1,rfl,rfl⟩
    · simp [r36l0,b36l0,hB,hE.1]
    · simp [r36l0,b36l0,hB,hE.1]
  | x :: rest,done,hd,Y,YL,hY => by
    have hrl : a.length = done.length + (rest.length + 1) := by rw [hd]; simp
    have hlt : (done.length : Int) < a.length := by omega
    have hlt2 : done.length < a.length := by omega
    have hw : IntKind.i64.wrap ((done.length : Int) + 1) = (done.length : Int) + 1 := wr (by omega)
    have hdl : done.length ≤ 4294967295 := by omega
    have hEl := hE.1
    have hgd : a.getD done.length [] = x := by rw [hd]; simp
    obtain ⟨nl,hat⟩ := hE.2 done.length hlt2
    rw [hgd] at hat
    have hx : x.length ≤ 1048576 := hs.2 x (by rw [hd]; simp)
    have hx2 : x.length ≤ 4294967296 := by omega
    have hnew : encGs false false (done ++ [x]) = encGs false false done ++ [encL false false x] := by simp [encGs]
    have hYn : OwnS 29 1 (.own (0,29) (done.length + 1)) [(29,.row 1 (encGs false false done ++ [encL false false x]))] (encGs false false (done ++ [x])) := by
      refine .inr ⟨by rw [hnew]; simp, ?_, ?_⟩
      · rw [hnew]; simp
      · rw [hnew]
    obtain ⟨Y',YL',hY',hn⟩ := loopBo0 E B hB a hE h60 hs rest (done ++ [x]) (by simpa using hd) _ _ hYn
    refine ⟨Y',YL',hY', ?_⟩
    clear hY'
    simp only [List.length_append,List.length_cons,List.length_nil,Int.natCast_add,show ((0 + 1 : Nat) : Int) = 1 from rfl] at hn
    have e1 : x = [] → encL nl false x = .nils ∨ encL nl false x = .sl false 2 [] := by rintro rfl; cases nl <;> simp [encL]
    rw [loopI_eq]
    by_cases hxe : x = []
    · have hnx : encL false false x = .sl false 2 [] := by rw [hxe]; rfl
      rw [hnx] at hn
      rcases hY with ⟨h1,rfl,rfl⟩ | ⟨h1,rfl,rfl⟩
      · have hd0 : done = [] := by cases done with | nil => rfl | cons p q => simp [encGs] at h1
        subst hd0
        have hlt0 : 0 < a.length := by omega
        rcases e1 hxe with e | e
        all_goals
          rw [e] at hat
          simp at hn hat
          simp [r36l0,b36l0,hB,hEl,hlt,hlt2,hlt0,hw,hat,wr1]
          simpa [encGs] using hn
      · rcases e1 hxe with e | e
        all_goals
          rw [e] at hat
          simp [r36l0,b36l0,hB,hEl,hlt,hlt2,hw,hat,hdl]
          simpa [encGs] using hn
    · have hnx : encL false false x = .sl false 2 (x.map mvP) := encL_ne hxe
      have hnx2 : encL nl false x = .sl false 2 (x.map mvP) := encL_ne hxe
      rw [hnx] at hn
      rw [hnx2] at hat
      rcases hY with ⟨h1,rfl,rfl⟩ | ⟨h1,rfl,rfl⟩
      · have hd0 : done = [] := by cases done with | nil => rfl | cons p q => simp [encGs] at h1
        subst hd0
        have hlt0 : 0 < a.length := by omega
        simp at hn hat
        simp [r36l0,b36l0,hB,hEl,hlt,hlt2,hlt0,hw,hat,wr1,hxe,hx2,fals_mvP]
        simpa [encGs] using hn
      · simp [r36l0,b36l0,hB,hEl,hlt,hlt2,hw,hat,hdl,hxe,hx2,fals_mvP]
        simpa [encGs] using hn
end Go.Am
end
section
set_option maxRecDepth 10000
set_option maxHeartbeats 1000000
set_option linter.unusedSimpArgs false
set_option linter.unusedVariables false
namespace Go.Am
open Go.Proofs Go.Sort Go.Shelf
theorem loopBo1 (E X : List PV) (b : Gr) (hE : EncR false E b) (k : Int) (hk : 0 ≤ k ∧ k ≤ 1000) (j : Nat) (hj : j < b.length) (hjb : j ≤ 100000) (row : List Mv) (hrow : b.getD j [] = row) (hr : ∀ x ∈ row,0 ≤ x.2 ∧ x.2 ≤ 1000) (hrl : row.length ≤ 1048576) : ∀ (rest done : List Mv),row = done ++ rest →
    loopI G [3,4,5,7,8,9,10] [3,4,5,29,41,75,80] c36l1 ⟨[(3,.ref (0,3) 1 0 0),(4,.ref (0,4) 1 0 0),(5,.ref (0,5) 1 0 0),(7,.i k),(8,.i j),(9,owP 75 (shL k done)),(10,.i done.length)],(3,.box [.sl false 1 E]) :: (4,.box [.nils]) :: (5,.box [.own (0,29) X.length]) :: (29,.row 1 X) :: owL 75 (shL k done),[]⟩ =
      some (.exit 4,⟨[(3,.ref (0,3) 1 0 0),(4,.ref (0,4) 1 0 0),(5,.ref (0,5) 1 0 0),(7,.i k),(8,.i j),(9,owP 75 (shL k row)),(10,.i row.length),(49,.b false)],(3,.box [.sl false 1 E]) :: (4,.box [.nils]) :: (5,.box [.own (0,29) X.length]) :: (29,.row 1 X) :: owL 75 (shL k row),[]⟩)
  | [],done,hd => by
    rw [List.append_nil] at hd
    subst hd
    have hEl := hE.1
    obtain ⟨nl,hat⟩ := hE.2 j hj
    rw [hrow] at hat
    have hji : (j : Int) < b.length := by omega
    rw [loopI_eq]
    rcases encL_two nl false row with ⟨e,e2⟩ | e
    · rw [e] at hat
      subst e2
      simp [r36l1,b36l1,hEl,hj,hji,hat,shL]
    · rw [e] at hat
      by_cases hd : row = []
      · rw [hd] at hat ⊢
        simp at hat
        simp [r36l1,b36l1,hEl,hj,hji,hat,shL]
      · have hp : owP 75 (shL k row) = .own (0,75) row.length := by simp [owP,shL,hd]
        have ho : owL 75 (shL k row) = [(75,.row 2 ((shL k row).map mvP))] := by simp [owL,shL,hd]
        simp [r36l1,b36l1,hEl,hj,hji,hat,hp,ho]
  | x :: rest,done,hd => by
    have hEl := hE.1
    obtain ⟨nl,hat⟩ := hE.2 j hj
    rw [hrow] at hat
    have hji : (j : Int) < b.length := by omega
    have hx := hr x (by rw [hd]; simp)
    have hen : encL nl false row = .sl false 2 (row.map mvP) := encL_ne (by rw [hd]; simp)
    rw [hen] at hat
    have hrl2 : row.length = done.length + (rest.length + 1) := by rw [hd]; simp
    have hlt : (done.length : Int) < row.length := by omega
    have hlt2 : done.length < row.length := by omega
    have hw : IntKind.i64.wrap ((done.length : Int) + 1) = (done.length : Int) + 1 := wr (by omega)
    have hw2 : IntKind.i64.wrap (x.2 + k) = x.2 + k := wr (by omega)
    have hdl : done.length ≤ 4294967295 := by omega
    have hat2 : nth (row.map mvP) done.length = some (mvP x) := by rw [hd]; exact mv_at done x rest
    have hn := loopBo1 E X b hE k hk j hj hjb row hrow hr hrl rest (done ++ [x]) (by simpa using hd)
    have hml : (row.map mvP).length = row.length := by simp
    generalize hM : row.map mvP = M at hat hat2 hml
    rw [loopI_eq]
    simp only [mvP] at hat2
    by_cases hdn : done = []
    · subst hdn
      simp at hat2 hn hlt
      simp [r36l1,b36l1,hEl,hj,hji,hlt,hlt2,hat,hat2,hml,mvP,unAgg,hw,hw2,hdl,shL,wr1]
      simpa [shL,mvP,Int.add_assoc] using hn
    · have hp : owP 75 (shL k done) = .own (0,75) done.length := by simp [owP,shL,hdn]
      have ho : owL 75 (shL k done) = [(75,.row 2 ((shL k done).map mvP))] := by simp [owL,shL,hdn]
      rw [hp,ho]
      simp [r36l1,b36l1,hEl,hj,hji,hlt,hlt2,hat,hat2,hml,mvP,unAgg,hw,hw2,hdl]
      simpa [shL,mvP,Int.add_assoc] using hn
theorem loopBo2 (E XA : List PV) (hXA : XA.length ≤ 100000) (b : Gr) (hE : EncR false E b) (hb : b.length ≤ 100000) (hs : SmallG b) (hto : ∀ l ∈ b,∀ m ∈ l,0 ≤ m.2 ∧ m.2 ≤ 1000) (k : Int) (hk : 0 ≤ k ∧ k ≤ 1000) : ∀ (rest done : Gr),b = done ++ rest →
    loopI G [3,4,5,7,8] [3,4,5,29,80] c36l2 ⟨[(3,.ref (0,3) 1 0 0),(4,.ref (0,4) 1 0 0),(5,.ref (0,5) 1 0 0),(7,.i k),(8,.i done.length)],[(3,.box [.sl false 1 E]),(4,.box [.nils]),(5,.box [.own (0,29) (XA ++ encGs true false (done.map (shL k))).length]),(29,.row 1 (XA ++ encGs true false (done.map (shL k))))],[]⟩ =
      some (.exit 2,⟨[(3,.ref (0,3) 1 0 0),(4,.ref (0,4) 1 0 0),(5,.ref (0,5) 1 0 0),(7,.i k),(8,.i b.length),(38,.b false)],[(3,.box [.sl false 1 E]),(4,.box [.nils]),(5,.box [.own (0,29) (XA ++ encGs true false (b.map (shL k))).length]),(29,.row 1 (XA ++ encGs true false (b.map (shL k))))],[]⟩)
  | [],done,hd => by
    rw [List.append_nil] at hd
    subst hd
    rw [loopI_eq]
    simp [r36l2,b36l2,hE.1]
  | x :: rest,done,hd => by
    have hEl := hE.1
    have hrl : b.length = done.length + (rest.length + 1) := by rw [hd]; simp
    have hlt : (done.length : Int) < b.length := by omega
    have hlt2 : done.length < b.length := by omega
    have hw : IntKind.i64.wrap ((done.length : Int) + 1) = (done.length : Int) + 1 := wr (by omega)
    have hx : x ∈ b := by rw [hd]; simp
    have hgd : b.getD done.length [] = x := by rw [hd]; simp
    have hXl : (XA ++ encGs true false (done.map (shL k))).length ≤ 4294967295 := by simp; omega
    have hn := loopBo2 E XA hXA b hE hb hs hto k hk rest (done ++ [x]) (by simpa using hd)
    have hnew : XA ++ encGs true false ((done ++ [x]).map (shL k)) = (XA ++ encGs true false (done.map (shL k))) ++ [encL true false (shL k x)] := by simp [encGs]
    rw [hnew] at hn
    generalize hXX : XA ++ encGs true false (done.map (shL k)) = X at hn hXl ⊢
    have h1 := loopBo1 E X b hE k hk done.length hlt2 (by omega) x hgd (fun m hm => hto x hx m hm) (hs.2 x hx) x [] rfl
    simp only [List.length_nil,show ((0 : Nat) : Int) = 0 from rfl,show shL k [] = [] from rfl,owP_n,owL_n] at h1
    simp only [List.length_append,List.length_cons,List.length_nil,Int.natCast_add,show ((0 + 1 : Nat) : Int) = 1 from rfl,Nat.zero_add] at hn
    rw [loopI_eq]
    by_cases hxe : x = []
    · subst hxe
      simp [shL] at h1 hn
      simp [r36l2,b36l2,hEl,hlt,hlt2,hw,h1,hXl,fals_mvP]
      simpa using hn
    · have hp : owP 75 (shL k x) = .own (0,75) x.length := by simp [owP,shL,hxe]
      have ho : owL 75 (shL k x) = [(75,.row 2 ((shL k x).map mvP))] := by simp [owL,shL,hxe]
      have he : encL true false (shL k x) = .sl false 2 ((shL k x).map mvP) := encL_ne (by simp [shL,hxe])
      rw [he] at hn
      rw [hp,ho] at h1
      simp [r36l2,b36l2,hEl,hlt,hlt2,hw,h1,hXl,fals_mvP]
      simpa using hn
theorem eqBoth (EA EB : List PV) (a b : Gr) (hA : EncR false EA a) (hB : EncR false EB b) (ha : a ≠ []) (ha2 : a.length ≤ 1000) (hb2 : b.length ≤ 100000) (hsA : SmallG a) (hsB : SmallG b) (hto : ∀ l ∈ b,∀ m ∈ l,0 ≤ m.2 ∧ m.2 ≤ 1000) :
    callI G 36 [.agg [.sl false 1 EA],.agg [.sl false 1 EB]] [] = some (.agg [.sl true 1 (encGs false false a ++ encGs true false (b.map (shL a.length)))],[]) := by
  obtain ⟨Y,YL,hY,l0⟩ := loopBo0 EA (.sl false 1 EB) (by intro f n; simp) a hA (by omega) hsA a [] rfl .nils [] (.inl ⟨rfl,rfl,rfl⟩)
  have l2 := loopBo2 EB (encGs false false a) (by simp; omega) b hB hb2 hsB hto a.length (by omega) b [] rfl
  have hne : encGs false false a ≠ [] := by simp [encGs,ha]
  rcases hY with ⟨q,_⟩ | ⟨_,rfl,rfl⟩
  · exact absurd q hne
  · have e0 : encGs true false [] = [] := rfl
    simp only [List.length_nil,show ((0 : Nat) : Int) = 0 from rfl,List.map_nil,e0,List.append_nil,List.length_append,encGs_len,List.length_map] at l0 l2
    rw [callI_eq]
    simp [body1_eq _ _ (gp 36) g36,c36,a36,l0,l2,hA.1]
end Go.Am
end
section
set_option maxRecDepth 10000
set_option maxHeartbeats 1000000
set_option linter.unusedSimpArgs false
set_option linter.unusedVariables false
namespace Go.Am
open Go.Proofs Go.Sort Go.Shelf
def seenS (n : Nat) (row : List Int) : List PV := (List.range n).map fun k : Nat => PV.b (decide ((k : Int) ∈ row))
@[simp] theorem seenS_len (n : Nat) (row : List Int) : (seenS n row).length = n := by simp [seenS]
end Go.Am
end
section
set_option maxRecDepth 10000
set_option maxHeartbeats 1000000
set_option linter.unusedSimpArgs false
set_option linter.unusedVariables false
namespace Go.Am
open Go.Proofs Go.Sort Go.Shelf
theorem owP_ne {d : Nat} {l : List Mv} (h : l ≠ []) : owP d l = .own (0,d) l.length := by simp [owP,h]
theorem owL_ne {d : Nat} {l : List Mv} (h : l ≠ []) : owL d l = [(d,.row 2 (l.map mvP))] := by simp [owL,h]
theorem loopSo0 (L : List PV) (i : Nat) (x : Mv) (hi : i < L.length) (hx : nth L i = some (mvP x)) (O : List Mv) (hO : O.length ≤ 1048576) : ∀ (n : Nat) (p q : List Mv),p.length = n → O = p ++ q → (∀ y ∈ q,ltM x y = true) →
    ∃ p' q',O = p' ++ q' ∧ (∀ y ∈ q',ltM x y = true) ∧ (∀ z,p'.getLast? = some z → ltM x z = false) ∧
    loopI G [0,3,4,5] [7,49] c58l0 ⟨[(0,.sl false 2 L),(3,owP 49 O),(4,.i i),(5,.i p.length)],owL 49 O,[]⟩ =
      some (.exit 2,⟨[(0,.sl false 2 L),(3,owP 49 O),(4,.i i),(5,.i p'.length),(29,.b false)],owL 49 O,[]⟩)
  | 0,p,q,hn,hO2,hq => by
    have hp : p = [] := List.length_eq_zero_iff.1 hn
    subst hp
    rw [List.nil_append] at hO2
    subst hO2
    refine ⟨[],O,rfl,hq,(by intro z hz; cases hz), ?_⟩
    rw [loopI_eq]
    by_cases hd : O = []
    · subst hd
      simp [r58l0,b58l0]
    · rw [owP_ne hd,owL_ne hd]
      simp [r58l0,b58l0]
  | n + 1,p,q,hn,hO2,hq => by
    rcases last_cases p with ⟨h1,_⟩ | ⟨p0,z,h1,hgl⟩
    · subst h1; cases hn
    · subst h1
      have hn0 : p0.length = n := by simpa using hn
      have hne : O ≠ [] := by rw [hO2]; simp
      have hle := eqLess x z
      have hOl : O.length = p0.length + (1 + q.length) := by rw [hO2]; simp; omega
      have hat : nth (O.map mvP) p0.length = some (mvP z) := by
        rw [hO2,List.append_assoc]; exact mv_at p0 z q
      have hlt : (p0.length : Int) < O.length := by omega
      have hlt2 : p0.length < O.length := by omega
      have hw : IntKind.i64.wrap ((p0.length : Int) + 1 - 1) = p0.length := by rw [wr (by omega)]; omega
      have hw3 : IntKind.i64.wrap (p0.length : Int) = (p0.length : Int) := wr (by omega)
      have hpos : (0 : Int) < (p0.length : Int) + 1 := by omega
      have hpl : ((p0 ++ [z]).length : Int) = (p0.length : Int) + 1 := by simp
      have hi2 : (i : Int) < L.length := by omega
      rw [hpl,owP_ne hne,owL_ne hne]
      simp only [mvP] at hx hle hat
      have hml : (O.map mvP).length = O.length := by simp
      cases hv : ltM x z with
      | true =>
        rw [hv] at hle
        obtain ⟨p',q',a1,a2,a3,a4⟩ := loopSo0 L i x hi hx O hO n p0 (z :: q) hn0 (by rw [hO2]; simp) (fun y hy => by rcases List.mem_cons.1 hy with rfl | hy; exact hv; exact hq y hy)
        refine ⟨p',q',a1,a2,a3, ?_⟩
        rw [owP_ne hne,owL_ne hne] at a4
        generalize hM : O.map mvP = M at hat hml a4 ⊢
        rw [loopI_eq]
        simp [r58l0,b58l0,hpos,hi,hi2,hx,hml,hw,hw3,hlt,hlt2,hat,hle]
        simpa using a4
      | false =>
        rw [hv] at hle
        refine ⟨p0 ++ [z],q,hO2,hq,(fun y hy => by rw [hgl] at hy; cases hy; exact hv), ?_⟩
        rw [hpl]
        generalize hM : O.map mvP = M at hat hml ⊢
        rw [loopI_eq]
        simp [r58l0,b58l0,hpos,hi,hi2,hx,hml,hw,hw3,hlt,hlt2,hat,hle]
theorem loopSo1 (L : List PV) (i : Int) (p : List Mv) (N : Nat) (hN : N ≤ 1048577) : ∀ (n : Nat) (q1 : List Mv) (w : Mv) (q2 : List Mv),q1.length = n → p.length + q1.length + 1 + q2.length = N →
    ∃ w' : Mv,loopI G [0,3,4,5,6] [7,49] c58l1 ⟨[(0,.sl false 2 L),(3,.own (0,49) N),(4,.i i),(5,.i p.length),(6,.i (p.length + q1.length))],[(49,.row 2 ((p ++ (q1 ++ w :: q2)).map mvP))],[]⟩ =
      some (.exit 4,⟨[(0,.sl false 2 L),(3,.own (0,49) N),(4,.i i),(5,.i p.length),(6,.i p.length),(55,.b false)],[(49,.row 2 ((p ++ w' :: (q1 ++ q2)).map mvP))],[]⟩)
  | 0,q1,w,q2,hn,hl => by
    have hq : q1 = [] := List.length_eq_zero_iff.1 hn
    subst hq
    refine ⟨w, ?_⟩
    rw [loopI_eq]
    simp [r58l1,b58l1]
  | n + 1,q1,w,q2,hn,hl => by
    rcases last_cases q1 with ⟨h1,_⟩ | ⟨q0,z,h1,hgl⟩
    · subst h1; cases hn
    · subst h1
      have hn0 : q0.length = n := by simpa using hn
      have hl0 : p.length + q0.length + 1 + (z :: q2).length = N := by simp at hl ⊢; omega
      obtain ⟨w',hnx⟩ := loopSo1 L i p N hN n q0 z (z :: q2) hn0 hl0
      refine ⟨w', ?_⟩
      simp only [List.length_cons] at hl0
      have hj : (p.length : Int) + ((q0 ++ [z]).length : Int) = (p.length : Int) + q0.length + 1 := by simp; omega
      have hgt : (p.length : Int) < (p.length : Int) + q0.length + 1 := by omega
      have hw : IntKind.i64.wrap ((p.length : Int) + q0.length + 1 - 1) = (p.length : Int) + q0.length := by rw [wr (by omega)]; omega
      have hw2 : IntKind.i64.wrap ((p.length : Int) + q0.length) = (p.length : Int) + q0.length := wr (by omega)
      have hge : (0 : Int) ≤ (p.length : Int) + q0.length := by omega
      have hge1 : (0 : Int) ≤ (p.length : Int) + q0.length + 1 := by omega
      have hlt : (p.length : Int) + q0.length < N := by omega
      have hlt1 : (p.length : Int) + q0.length + 1 < N := by omega
      have htn : ((p.length : Int) + q0.length).toNat = p.length + q0.length := by omega
      have htn1 : ((p.length : Int) + q0.length + 1).toNat = p.length + q0.length + 1 := by omega
      have hml : ((p ++ (q0 ++ [z] ++ w :: q2)).map mvP).length = N := by simp; omega
      have hat : nth ((p ++ (q0 ++ [z] ++ w :: q2)).map mvP) (p.length + q0.length) = some (mvP z) := by
        have := at_D ((p ++ q0).map mvP) (mvP z) ((w :: q2).map mvP) (p.length + q0.length) (by simp)
        simpa using this
      have hat1 : nth ((p ++ (q0 ++ [z] ++ w :: q2)).map mvP) (p.length + q0.length + 1) = some (mvP w) := by
        have := at_D ((p ++ (q0 ++ [z])).map mvP) (mvP w) (q2.map mvP) (p.length + q0.length + 1) (by simp; omega)
        simpa using this
      have hst : ((p ++ (q0 ++ [z] ++ w :: q2)).map mvP).set (p.length + q0.length + 1) (mvP z) = (p ++ (q0 ++ z :: z :: q2)).map mvP := by
        have := set_D ((p ++ (q0 ++ [z])).map mvP) (mvP w) (mvP z) (q2.map mvP) (p.length + q0.length + 1) (by simp; omega)
        simpa using this
      rw [hj]
      generalize hM : (p ++ (q0 ++ [z] ++ w :: q2)).map mvP = M at hat hat1 hst hml ⊢
      have hr : (p ++ w' :: (q0 ++ [z] ++ q2)).map mvP = (p ++ w' :: (q0 ++ z :: q2)).map mvP := by simp
      rw [hr]
      simp only [mvP] at hat hat1 hst
      generalize hM2 : (p ++ (q0 ++ z :: z :: q2)).map mvP = M2 at hst hnx
      generalize hM3 : (p ++ w' :: (q0 ++ z :: q2)).map mvP = M3 at hnx ⊢
      rw [loopI_eq]
      simp [r58l1,b58l1,hgt,hw,hw2,hge,hge1,hlt,hlt1,htn,htn1,hml,hat,hat1,unAgg,hst]
      exact hnx
def Sd (l : List Mv) : Prop := l.Pairwise fun a b => ltM a b = true
theorem ltM_tr {a b d : Mv} (h : ltM a b = true) (k : ltM b d = true) : ltM a d = true := by
  have h := (ltM_iff a b).1 h
  have k := (ltM_iff b d).1 k
  refine (ltM_iff a d).2 ?_
  omega
theorem ltM_irr (a : Mv) : ltM a a = false := (ltM_false a a).2 (by omega)
theorem ltM_as {a b : Mv} (h : ltM a b = true) : ltM b a = false := by
  have h := (ltM_iff a b).1 h
  exact (ltM_false b a).2 (by omega)
theorem ltM_eq {a b : Mv} (h : ltM a b = false) (k : ltM b a = false) : a = b := by
  have h := (ltM_false a b).1 h
  have k := (ltM_false b a).1 k
  exact Prod.ext (by omega) (by omega)
theorem Sd_split {p q : List Mv} {x : Mv} (h : Sd (p ++ q)) (hq : ∀ y ∈ q,ltM x y = true) (hp : ∀ z,p.getLast? = some z → ltM z x = true) : Sd (p ++ x :: q) := by
  have h := List.pairwise_append.1 h
  refine List.pairwise_append.2 ⟨h.1,List.pairwise_cons.2 ⟨hq,h.2.1⟩,fun a ha b hb => ?_⟩
  rcases List.mem_cons.1 hb with rfl | hb
  · rcases last_cases p with ⟨e,_⟩ | ⟨p0,z,e,hg⟩
    · subst e; cases ha
    · have hz := hp z hg
      subst e
      rcases List.mem_append.1 ha with ha | ha
      · exact ltM_tr ((List.pairwise_append.1 h.1).2.2 a ha z (by simp)) hz
      · rw [List.mem_singleton] at ha; subst ha; exact hz
  · exact h.2.2 a ha b hb
end Go.Am
end
section
set_option maxRecDepth 10000
set_option maxHeartbeats 1000000
set_option linter.unusedSimpArgs false
set_option linter.unusedVariables false
namespace Go.Am
open Go.Proofs Go.Sort Go.Shelf
theorem wr0 : IntKind.i64.wrap 0 = 0 := by rfl
theorem loopSo2 (list : List Mv) (hl : list.length ≤ 1048576) : ∀ (rest done : List Mv),list = done ++ rest → ∀ O,Sd O → (∀ y,y ∈ O ↔ y ∈ done) → O.length ≤ done.length →
    ∃ O',Sd O' ∧ (∀ y,y ∈ O' ↔ y ∈ list) ∧
    loopI G [0,3,4] [7,49] c58l2 ⟨[(0,.sl false 2 (list.map mvP)),(3,owP 49 O),(4,.i done.length)],owL 49 O,[]⟩ =
      some (.exit 0,⟨[(0,.sl false 2 (list.map mvP)),(3,owP 49 O'),(4,.i list.length),(11,.b false)],owL 49 O',[]⟩)
  | [],done,hd,O,hO,hm,hOl => by
    rw [List.append_nil] at hd
    subst hd
    refine ⟨O,hO,hm, ?_⟩
    rw [loopI_eq]
    by_cases hne : O = []
    · subst hne
      simp [r58l2,b58l2]
    · rw [owP_ne hne,owL_ne hne]
      simp [r58l2,b58l2]
  | x :: rest,done,hd,O,hO,hm,hOl => by
    have hll : list.length = done.length + (rest.length + 1) := by rw [hd]; simp
    have hlt : (done.length : Int) < list.length := by omega
    have hlt2 : done.length < list.length := by omega
    have hw : IntKind.i64.wrap ((done.length : Int) + 1) = (done.length : Int) + 1 := wr (by omega)
    have hx : nth (list.map mvP) done.length = some (mvP x) := by rw [hd]; exact mv_at done x rest
    have hLl : (list.map mvP).length = list.length := by simp
    obtain ⟨p,q,a1,a2,a3,a4⟩ := loopSo0 (list.map mvP) done.length x (by rw [hLl]; omega) hx O (by omega) O.length O [] rfl (by simp) (by simp)
    by_cases hz : ∃ z,p.getLast? = some z ∧ z = x
    · -- there already
      obtain ⟨z,hz1,rfl⟩ := hz
      rcases last_cases p with ⟨e,e2⟩ | ⟨p0,z',e,e2⟩
      · rw [e2] at hz1; cases hz1
      · rw [e2] at hz1
        cases hz1
        have hne : O ≠ [] := by rw [a1,e]; simp
        have hxO : z ∈ O := by rw [a1,e]; simp
        have hat : nth (O.map mvP) p0.length = some (mvP z) := by
          rw [a1,e,List.append_assoc]; exact mv_at p0 z q
        have hOl2 : O.length = p0.length + (1 + q.length) := by rw [a1,e]; simp; omega
        have hpl : (p.length : Int) = (p0.length : Int) + 1 := by rw [e]; simp
        obtain ⟨O',b1,b2,b3⟩ := loopSo2 list hl rest (done ++ [z]) (by simpa using hd) O hO (fun y => by
          rw [hm y,List.mem_append,List.mem_singleton]
          exact ⟨.inl,fun h => h.elim id fun h => by rw [h]; exact (hm z).1 hxO⟩) (by simp; omega)
        refine ⟨O',b1,b2, ?_⟩
        rw [hpl] at a4
        have hltp : (p0.length : Int) < O.length := by omega
        have hltp2 : p0.length < O.length := by omega
        have hwp : IntKind.i64.wrap ((p0.length : Int) + 1 - 1) = p0.length := by rw [wr (by omega)]; omega
        have hw3 : IntKind.i64.wrap (p0.length : Int) = (p0.length : Int) := wr (by omega)
        have hpos : (0 : Int) < (p0.length : Int) + 1 := by omega
        have hml : (O.map mvP).length = O.length := by simp
        rw [owP_ne hne,owL_ne hne] at a4 b3 ⊢
        simp only [List.length_append,List.length_cons,List.length_nil,Int.natCast_add,show ((0 + 1 : Nat) : Int) = 1 from rfl] at b3
        simp only [mvP] at hx hat
        generalize hM : O.map mvP = M at hat hml a4 b3 ⊢
        generalize hL : list.map mvP = L at hx hLl a4 b3 ⊢
        rw [loopI_eq]
        simp [r58l2,b58l2,hlt,hlt2,hw,hx,hLl,a4,hpos,hwp,hw3,hltp,hltp2,hml,hat]
        exact b3
    · -- a new one
      have hltz : ∀ z,p.getLast? = some z → ltM z x = true := fun z hz1 => by
        cases hv : ltM z x with
        | true => rfl
        | false => exact absurd ⟨z,hz1,ltM_eq hv (a3 z hz1)⟩ hz
      have hO' : Sd (p ++ x :: q) := Sd_split (a1 ▸ hO) a2 hltz
      have hm' : ∀ y,y ∈ p ++ x :: q ↔ y ∈ done ++ [x] := fun y => by
        have := hm y
        rw [a1] at this
        simp only [List.mem_append,List.mem_cons,List.not_mem_nil,or_false] at this ⊢
        rw [← this]
        constructor
        · rintro (h | h | h)
          · exact .inl (.inl h)
          · exact .inr h
          · exact .inl (.inr h)
        · rintro ((h | h) | h)
          · exact .inl h
          · exact .inr (.inr h)
          · exact .inr (.inl h)
      have hpq : O.length = p.length + q.length := by rw [a1]; simp
      obtain ⟨O',b1,b2,b3⟩ := loopSo2 list hl rest (done ++ [x]) (by simpa using hd) (p ++ x :: q) hO' hm' (by simp; omega)
      refine ⟨O',b1,b2, ?_⟩
      obtain ⟨w',c1⟩ := loopSo1 (list.map mvP) done.length p (O.length + 1) (by omega) q.length q (0,0) [] rfl (by simp; omega)
      have hrow : (p ++ (q ++ (0,0) :: [])).map mvP = O.map mvP ++ [.agg [.i 0,.i 0]] := by rw [a1]; simp [mvP]
      have hj : (p.length : Int) + q.length = O.length := by omega
      rw [hrow,hj,List.append_nil] at c1
      have hR2 : nth ((p ++ w' :: q).map mvP) p.length = some (mvP w') := mv_at p w' q
      have hS2 : ((p ++ w' :: q).map mvP).set p.length (mvP x) = (p ++ x :: q).map mvP := by simp
      have hml2 : ((p ++ w' :: q).map mvP).length = O.length + 1 := by simp; omega
      have hne3 : p ++ x :: q ≠ [] := by simp
      have hl3 : (p ++ x :: q).length = O.length + 1 := by simp; omega
      rw [owP_ne hne3,owL_ne hne3,hl3] at b3
      simp only [List.length_append,List.length_cons,List.length_nil,Int.natCast_add,show ((0 + 1 : Nat) : Int) = 1 from rfl] at b3
      have hpl : (p.length : Int) < (O.length : Int) + 1 := by omega
      have hpl2 : p.length < O.length + 1 := by omega
      have hwO : IntKind.i64.wrap ((O.length : Int) + 1 - 1) = O.length := by rw [wr (by omega)]; omega
      have hwO2 : IntKind.i64.wrap (O.length : Int) = O.length := wr (by omega)
      have hOlb : O.length ≤ 4294967295 := by omega
      by_cases hne : O = []
      · -- the first one
        have hp0 : p = [] := by cases p with | nil => rfl | cons u v => rw [hne] at a1; cases a1
        have hq0 : q = [] := by rw [hp0,hne] at a1; exact a1.symm
        subst hp0 hq0
        rw [hne] at a4 c1 ⊢
        rw [hne] at b3 hml2
        simp only [owP_n,owL_n,List.length_nil,List.map_nil,List.nil_append,Nat.zero_add,show ((0 : Nat) : Int) = 0 from rfl] at a4 c1 b3 hR2 hS2 hml2 ⊢
        simp only [mvP] at hx hS2 hR2
        generalize hL : list.map mvP = L at hx hLl a4 b3 c1 ⊢
        generalize hM2 : List.map mvP [w'] = M2 at hR2 hS2 hml2 c1
        rw [loopI_eq]
        simp [r58l2,b58l2,hlt,hlt2,hw,hx,hLl,a4,c1,wr0,hR2,hS2,hml2,unAgg]
        simpa using b3
      · rw [owP_ne hne,owL_ne hne] at a4 ⊢
        have hml : (O.map mvP).length = O.length := by simp
        rcases last_cases p with ⟨e,e2⟩ | ⟨p0,z,e,e2⟩
        · subst e
          simp only [List.length_nil,show ((0 : Nat) : Int) = 0 from rfl,List.nil_append] at a4 c1 hR2 hS2 hml2 b3
          simp only [mvP] at hx hS2 hR2
          generalize hL : list.map mvP = L at hx hLl a4 b3 c1 ⊢
          generalize hM2 : List.map mvP (w' :: q) = M2 at hR2 hS2 hml2 c1
          generalize hM : O.map mvP = M at hml a4 c1 ⊢
          generalize hM3 : List.map mvP (x :: q) = M3 at hS2 b3
          rw [loopI_eq]
          simp [r58l2,b58l2,hlt,hlt2,hw,hx,hLl,a4,c1,hR2,hS2,hml2,unAgg,hml,hwO,hwO2,hOlb]
          exact b3
        · have hzx : ¬ z = x := fun h => hz ⟨z,e2,h⟩
          have hdec : (decide (z.1 = x.1) && decide (z.2 = x.2)) = false := by
            rw [← Bool.decide_and]; exact decide_eq_false fun h => hzx (Prod.ext h.1 h.2)
          have hpp : (p.length : Int) = (p0.length : Int) + 1 := by rw [e]; simp
          have hat : nth (O.map mvP) p0.length = some (mvP z) := by
            rw [a1,e,List.append_assoc]; exact mv_at p0 z q
          have hppn : p.length = p0.length + 1 := by omega
          have hltp : (p0.length : Int) < O.length := by omega
          have hltp2 : p0.length < O.length := by omega
          have hwp : IntKind.i64.wrap ((p0.length : Int) + 1 - 1) = p0.length := by rw [wr (by omega)]; omega
          have hw3 : IntKind.i64.wrap (p0.length : Int) = (p0.length : Int) := wr (by omega)
          have hpos : (0 : Int) < (p0.length : Int) + 1 := by omega
          rw [hpp] at a4 c1
          rw [hppn] at hR2 hS2 hpl2
          have hge1 : (0 : Int) ≤ (p0.length : Int) + 1 := by omega
          have hltq : p0.length < O.length := by omega
          simp only [mvP] at hx hS2 hR2 hat
          generalize hL : list.map mvP = L at hx hLl a4 b3 c1 ⊢
          generalize hM2 : List.map mvP (p ++ w' :: q) = M2 at hR2 hS2 hml2 c1
          generalize hM : O.map mvP = M at hml a4 c1 hat ⊢
          generalize hM3 : List.map mvP (p ++ x :: q) = M3 at hS2 b3
          rw [loopI_eq]
          simp [r58l2,b58l2,hlt,hlt2,hw,hx,hLl,a4,c1,hR2,hS2,hml2,unAgg,hml,hwO,hwO2,hOlb,hpos,hwp,hw3,hltp,hltp2,hat,hdec,hge1]
          exact b3
end Go.Am
end
section
set_option maxRecDepth 10000
set_option maxHeartbeats 1000000
set_option linter.unusedSimpArgs false
set_option linter.unusedVariables false
namespace Go.Am
open Go.Proofs Go.Sort Go.Shelf
theorem Sd_uniq : ∀ (a b : List Mv),Sd a → Sd b → (∀ y,y ∈ a ↔ y ∈ b) → a = b
  | [],[],_,_,_ => rfl
  | [],y :: b,_,_,h => by have := (h y).2 List.mem_cons_self; cases this
  | x :: a,[],_,_,h => by have := (h x).1 List.mem_cons_self; cases this
  | x :: a,y :: b,ha,hb,h => by
    have ha' := List.pairwise_cons.1 ha
    have hb' := List.pairwise_cons.1 hb
    have hxy : x = y := by
      rcases List.mem_cons.1 ((h x).1 List.mem_cons_self) with e | e
      · exact e
      · rcases List.mem_cons.1 ((h y).2 List.mem_cons_self) with e' | e'
        · exact e'.symm
        · have h1 := hb'.1 x e
          have h2 := ha'.1 y e'
          rw [ltM_as h1] at h2; cases h2
    subst hxy
    have : a = b := Sd_uniq a b ha'.2 hb'.2 fun y => by
      constructor
      · intro hy
        rcases List.mem_cons.1 ((h y).1 (List.mem_cons_of_mem _ hy)) with e | e
        · subst e; have := ha'.1 y hy; rw [ltM_irr] at this; cases this
        · exact e
      · intro hy
        rcases List.mem_cons.1 ((h y).2 (List.mem_cons_of_mem _ hy)) with e | e
        · subst e; have := hb'.1 y hy; rw [ltM_irr] at this; cases this
        · exact e
    rw [this]
theorem ddup_sd : ∀ (l : List Mv) (p : Mv),(p :: l).Pairwise (fun a b => ltM b a = false) → Sd (p :: ddup p l) ∧ ∀ y,y ∈ p :: ddup p l ↔ y ∈ p :: l
  | [],p,h => ⟨by simp [Sd,ddup],fun y => by simp [ddup]⟩
  | x :: l,p,h => by
    have h1 := List.pairwise_cons.1 h
    have h2 := List.pairwise_cons.1 h1.2
    simp only [ddup]
    split
    · rename_i e
      subst e
      have ih := ddup_sd l x h1.2
      refine ⟨ih.1,fun y => ?_⟩
      rw [ih.2 y]
      simp
    · rename_i e
      have ih := ddup_sd l x h1.2
      refine ⟨List.pairwise_cons.2 ⟨fun y hy => ?_,ih.1⟩,fun y => ?_⟩
      · have hy' := (ih.2 y).1 hy
        have hyp := h1.1 y hy'
        cases hv : ltM p y with
        | true => rfl
        | false =>
          have : p = y := ltM_eq hv hyp
          subst this
          have hxp := h1.1 x List.mem_cons_self
          rcases List.mem_cons.1 hy' with e' | e'
          · exact absurd e'.symm e
          · exact absurd (ltM_eq hxp (h2.1 p e')) e
      · rw [List.mem_cons,ih.2 y,List.mem_cons (l := x :: l)]
theorem srtM_pw (l : List Mv) : (srtM l).Pairwise fun a b => ltM b a = false := by
  have := List.pairwise_mergeSort (le := fun x y : Mv => !ltM y x) (fun a b d h k => by
    simp only [Bool.not_eq_true'] at h k ⊢
    have h := (ltM_false b a).1 h
    have k := (ltM_false d b).1 k
    exact (ltM_false d a).2 (by omega)) (fun a b => by
    cases h : ltM b a with
    | false => simp
    | true => simp [ltM_as h]) l
  exact this.imp fun h => by simpa using h
theorem srtM_mem (l : List Mv) (y : Mv) : y ∈ srtM l ↔ y ∈ l := (List.mergeSort_perm l _).mem_iff
theorem tidyL_sd (l : List Mv) : Sd (tidyL l) ∧ ∀ y,y ∈ tidyL l ↔ y ∈ l := by
  unfold tidyL
  have hp := srtM_pw l
  have hm := srtM_mem l
  cases hs : srtM l with
  | nil =>
    rw [hs] at hm
    exact ⟨by simp [dd,Sd],fun y => by rw [← hm y]; simp [dd]⟩
  | cons x r =>
    rw [hs] at hp hm
    have := ddup_sd r x hp
    exact ⟨this.1,fun y => by rw [← hm y]; exact this.2 y⟩
theorem eqSorted (nl : Bool) (l : List Mv) (hl : l.length ≤ 1048576) : callI G 58 [encL nl false l] [] = some (encL true true (tidyL l),[]) := by
  rw [callI_eq]
  by_cases he : l = []
  · subst he
    rw [tidyL_n]
    have l2 := loopSo2 [] (by simp) [] [] rfl [] (by simp [Sd]) (by simp) (by simp)
    rcases encL_two nl false [] with ⟨e,_⟩ | e
    · rw [e]
      have l0 : loopI G [0,3,4] [7,49] c58l2 ⟨[(0,.nils),(3,.nils),(4,.i 0)],[],[]⟩ = some (.exit 0,⟨[(0,.nils),(3,.nils),(4,.i 0),(11,.b false)],[],[]⟩) := by
        rw [loopI_eq]
        simp [r58l2,b58l2]
      simp [body1_eq _ _ (gp 58) g58,c58,a58,l0]
    · rw [e]
      have l0 : loopI G [0,3,4] [7,49] c58l2 ⟨[(0,.sl false 2 []),(3,.nils),(4,.i 0)],[],[]⟩ = some (.exit 0,⟨[(0,.sl false 2 []),(3,.nils),(4,.i 0),(11,.b false)],[],[]⟩) := by
        rw [loopI_eq]
        simp [r58l2,b58l2]
      simp [body1_eq _ _ (gp 58) g58,c58,a58,l0]
  · obtain ⟨O,h1,h2,h3⟩ := loopSo2 l hl l [] rfl [] (by simp [Sd]) (by simp) (by simp)
    have hO : O = tidyL l := Sd_uniq _ _ h1 (tidyL_sd l).1 fun y => by rw [h2 y,(tidyL_sd l).2 y]
    have hne : tidyL l ≠ [] := tidyL_ne he
    rw [hO,owP_ne hne,owL_ne hne] at h3
    rw [encL_ne he,encL_ne hne]
    simp only [owP_n,owL_n,List.length_nil,show ((0 : Nat) : Int) = 0 from rfl] at h3
    simp [body1_eq _ _ (gp 58) g58,c58,a58,h3]
end Go.Am
end
section
set_option maxRecDepth 10000
set_option maxHeartbeats 8000000
set_option linter.unusedSimpArgs false
set_option linter.unusedVariables false
namespace Go.Am
open Go.Proofs Go.Sort Go.Shelf
theorem eqDo (o : Stack) (id : Id) (hid : id.1 < o.length) (B : List Nat) (p : Int) (hr : RdrOK B p) (hp : p + 2 ≤ 1000000000) :
    ∃ k q,p ≤ q ∧ q ≤ p + 2 ∧ -4 ≤ k ∧ k ≤ 4 ∧ callI H 47 [.ref id 1 0 0] (setS o id (rd B p)) = some (.i k,setS o id (rd B q)) := by
  have hne2 : ¬ id.1 = o.length := by omega
  obtain ⟨k1,a1,a2,c1⟩ := pickF o id hid B p 3 hr (by omega) (by omega)
  by_cases h1 : 0 < k1
  · obtain ⟨k2,b1,b2,c2⟩ := pickF o id hid B (p + 1) 5 (hr.next (by omega) (by omega)) (by omega) (by omega)
    have hw : IntKind.i64.wrap (k2 - 2) = k2 - 2 := wrD (by omega)
    refine ⟨k2 - 2,p + 1 + 1,by omega,by omega,by omega,by omega, ?_⟩
    rw [callI_eq]
    simp [body1_eq _ _ (gpH 47) g47,c47,a47,hne2,setS_len,c1,h1,c2,hw]
  · obtain ⟨k2,b1,b2,c2⟩ := pickF o id hid B (p + 1) 9 (hr.next (by omega) (by omega)) (by omega) (by omega)
    have hw : IntKind.i64.wrap (k2 - 4) = k2 - 4 := wrD (by omega)
    refine ⟨k2 - 4,p + 1 + 1,by omega,by omega,by omega,by omega, ?_⟩
    rw [callI_eq]
    simp [body1_eq _ _ (gpH 47) g47,c47,a47,hne2,setS_len,c1,h1,c2,hw]
theorem doF (o : Stack) (id : Id) (hid : id.1 < o.length) (B : List Nat) (p : Int) (hr : RdrOK B p) (hp : p + 2 ≤ 1000000000) :
    ∃ k q,p ≤ q ∧ q ≤ p + 2 ∧ -4 ≤ k ∧ k ≤ 4 ∧ callI H 47 [.ref id 1 0 0] (setS o id (rd B p) ++ [[]]) = some (.i k,setS o id (rd B q) ++ [[]]) := by
  obtain ⟨k,q,h1,h2,h3,h4,h5⟩ := eqDo (o ++ [[]]) id (hidA hid) B p hr hp
  exact ⟨k,q,h1,h2,h3,h4,frC hid h5⟩
theorem hSorted (l : List Mv) (hl : l.length ≤ 1048576) : callI H 58 [.sl false 2 (l.map mvP)] [] = some (encL true true (tidyL l),[]) := by
  rw [callI_prim' (p := viaP G 58 wkG) rfl]
  have e : wkG (.sl false 2 (l.map mvP)) = encL false false l := by
    have : nil1 1 (.sl false 2 (l.map mvP)) = .sl false 2 (l.map mvP) := rfl
    simp [wkG,this,weak,weaks_mvP]
  simp only [viaP,List.map_cons,List.map_nil,e]
  exact eqSorted false l hl
def gwP (n : Nat) (g : Gr) : PV := if g = [] then .nils else .own (n,51) g.length
def gwL (g : Gr) : Objs := if g = [] then [] else [(51,.row 1 (encGs true true g))]
theorem gw_two (n : Nat) (g : Gr) : (g = [] ∧ gwP n g = .nils ∧ gwL g = []) ∨ (g ≠ [] ∧ gwP n g = .own (n,51) g.length ∧ gwL g = [(51,.row 1 (encGs true true g))]) := by
  by_cases h : g = []
  · exact .inl ⟨h,by simp [gwP,h],by simp [gwL,h]⟩
  · exact .inr ⟨h,by simp [gwP,h],by simp [gwL,h]⟩
theorem loopWi0 (o : Stack) (id : Id) (hid : id.1 < o.length) (B : List Nat) (N s : Int) (few : Bool) (g : Gr) (hN : 1 ≤ N) (hN2 : N ≤ 1000) : ∀ (k : Nat) (p : Int) (l : List Mv),RdrOK B p → p + 4 * k ≤ 1000000000 → l.length + k ≤ 1000 →
    ∃ (l' : List Mv) (q : Int),p ≤ q ∧ q ≤ p + 4 * k ∧ l'.length = l.length + k ∧
      loopI H [0,4,5,6,7,8,9,10] [4,5,25,45,51] c45l0 ⟨[(0,.ref id 1 0 0),(4,.ref (o.length,4) 1 0 0),(5,.ref (o.length,5) 1 0 0),(6,.i N),(7,.b few),(8,.i s),(9,.own (o.length,25) l.length),(10,.i k)],(4,.box [.nils]) :: (5,.box [gwP o.length g]) :: (25,.row 2 (l.map mvP)) :: gwL g,setS o id (rd B p)⟩ =
        some (.exit 2,⟨[(0,.ref id 1 0 0),(4,.ref (o.length,4) 1 0 0),(5,.ref (o.length,5) 1 0 0),(6,.i N),(7,.b few),(8,.i s),(9,.own (o.length,25) l'.length),(10,.i 0),(29,.b false)],(4,.box [.nils]) :: (5,.box [gwP o.length g]) :: (25,.row 2 (l'.map mvP)) :: gwL g,setS o id (rd B q)⟩)
  | 0,p,l,hr,hp,hl => by
    refine ⟨l,p,by omega,by omega,rfl, ?_⟩
    rw [loopI_eq]
    have hne2 : ¬ id.1 = o.length := by omega
    rcases gw_two o.length g with ⟨h,h1,h2⟩ | ⟨h,h1,h2⟩ <;> rw [h1,h2] <;>
      simp [r45l0,b45l0,setS_len,hne2]
  | k + 1,p,l,hr,hp,hl => by
    have hne2 : ¬ id.1 = o.length := by omega
    have hw : IntKind.i64.wrap ((k : Int) + 1 - 1) = k := by rw [wrD (by omega)]; omega
    have hw2 : IntKind.i64.wrap (k : Int) = k := wrD (by omega)
    have hpos : (0 : Int) < (k : Int) + 1 := by omega
    have hl9 : l.length ≤ 4294967295 := by omega
    have hkk : ((k + 1 : Nat) : Int) = (k : Int) + 1 := by omega
    rw [hkk] at hp ⊢
    obtain ⟨a,a1,a2,ca⟩ := pickF o id hid B p 3 hr (by omega) (by omega)
    cases few with
    | true =>
      obtain ⟨t,t1,t2,ct⟩ := pickF o id hid B (p + 1) N (hr.next (by omega) (by omega)) (by omega) (by omega)
      obtain ⟨l',q,e1,e2,e3,hn⟩ := loopWi0 o id hid B N s true g hN hN2 k (p + 1 + 1) (l ++ [(a,t)]) (hr.next (by omega) (by omega)) (by omega) (by simp; omega)
      refine ⟨l',q,by omega,by omega,by rw [e3]; simp; omega, ?_⟩
      refine Eq.trans ?_ hn
      rw [loopI_eq]
      rcases gw_two o.length g with ⟨h,h1,h2⟩ | ⟨h,h1,h2⟩ <;> rw [h1,h2] <;>
        simp [r45l0,b45l0,setS_len,hne2,ca,ct,hw,hw2,hpos,hl9,mvP]
    | false =>
      obtain ⟨d,q1,d1,d2,d3,d4,cd⟩ := doF o id hid B (p + 1) (hr.next (by omega) (by omega)) (by omega)
      obtain ⟨t,t1,t2,ct⟩ := pickF o id hid B q1 N (hr.next (by omega) (by omega)) (by omega) (by omega)
      obtain ⟨l',q,e1,e2,e3,hn⟩ := loopWi0 o id hid B N s false g hN hN2 k (q1 + 1) (l ++ [(d,t)]) (hr.next (by omega) (by omega)) (by omega) (by simp; omega)
      refine ⟨l',q,by omega,by omega,by rw [e3]; simp; omega, ?_⟩
      refine Eq.trans ?_ hn
      rw [loopI_eq]
      rcases gw_two o.length g with ⟨h,h1,h2⟩ | ⟨h,h1,h2⟩ <;> rw [h1,h2] <;>
        simp [r45l0,b45l0,setS_len,hne2,ca,cd,ct,hw,hw2,hpos,hl9,mvP]
end Go.Am
end
section
set_option maxRecDepth 10000
set_option maxHeartbeats 4000000
set_option linter.unusedSimpArgs false
set_option linter.unusedVariables false
namespace Go.Am
open Go.Proofs Go.Sort Go.Shelf
inductive Tm | mk (op n : Int) (ps : List Tm)
mutual
def encT (u : Bool) : Tm → PV
  | .mk o n ps => .agg [.i o,.i n,encQ u ps]
def encQ (u : Bool) : List Tm → PV
  | [] => .nils
  | p :: ps => .sl u 3 (encT u p :: encTs u ps)
def encTs (u : Bool) : List Tm → List PV
  | [] => []
  | p :: ps => encT u p :: encTs u ps
end
theorem encTs_map (u : Bool) : ∀ ps : List Tm,encTs u ps = ps.map (encT u)
  | [] => by simp [encTs]
  | p :: ps => by simp [encTs,encTs_map u ps]
theorem encTs_len (u : Bool) (ps : List Tm) : (encTs u ps).length = ps.length := by simp [encTs_map]
theorem encQ_c (u : Bool) {ps : List Tm} (h : ps ≠ []) : encQ u ps = .sl u 3 (encTs u ps) := by
  cases ps with
  | nil => exact absurd rfl h
  | cons p ps => simp [encQ,encTs]
mutual
theorem fal_encT : ∀ p : Tm,fal (encT true p) = encT false p
  | .mk o x ps => by
    simp only [encT,fal,fals]
    rw [fal_encQ ps]
theorem fal_encQ : ∀ ps : List Tm,fal (encQ true ps) = encQ false ps
  | [] => by simp [encQ,fal]
  | p :: ps => by
    simp only [encQ,fal,fals]
    rw [fal_encT p,fals_encTs ps]
theorem fals_encTs : ∀ ps : List Tm,fals (encTs true ps) = encTs false ps
  | [] => by simp [encTs,fals]
  | p :: ps => by
    simp only [encTs,fals]
    rw [fal_encT p,fals_encTs ps]
end
def headOk (o n : Int) : Bool := if o = 0 then decide (n = 0) else if o = 1 then actOk n else if o = 2 ∨ o = 3 then decide (n = 0) else if o = 4 then decide (0 ≤ n) && decide (n ≤ 3) else if o = 5 then decide (0 ≤ n) && decide (n ≤ 2) else false
def wantN (o : Int) : Nat := if o = 1 then 1 else if o = 2 ∨ o = 3 then 2 else if o = 4 then 1 else 0
mutual
def nodesT : Tm → Nat
  | .mk o n ps => if headOk o n = true ∧ ps.length = wantN o then nodesL 1 ps else 0
def nodesL (k : Nat) : List Tm → Nat
  | [] => k
  | p :: ps => if nodesT p = 0 then 0 else nodesL (min 1000 (k + nodesT p)) ps
end
mutual
theorem nodesT_le : ∀ t : Tm,nodesT t ≤ 1000
  | .mk o n ps => by
    unfold nodesT
    split
    · exact nodesL_le 1 ps (by omega)
    · omega
theorem nodesL_le : ∀ (k : Nat) (ps : List Tm),k ≤ 1000 → nodesL k ps ≤ 1000
  | k,[],h => by simpa [nodesL] using h
  | k,p :: ps,h => by
    unfold nodesL
    split
    · omega
    · exact nodesL_le _ ps (by omega)
end
theorem tm_at (done : List Tm) (x : Tm) (rest : List Tm) : nth (encTs false (done ++ x :: rest)) done.length = some (encT false x) := by
  simp [nth,encTs_map]
theorem encT_form (u : Bool) (x : Tm) : ∃ (a b : Int) (c : PV),encT u x = .agg [.i a,.i b,c] ∧ (c = .nils ∨ ∃ L,c = .sl u 3 L) := by
  obtain ⟨a,b,ps⟩ := x
  refine ⟨a,b,_,rfl, ?_⟩
  cases ps with
  | nil => exact .inl (by simp [encQ])
  | cons p ps => exact .inr ⟨_,encQ_c u (List.cons_ne_nil p ps)⟩
theorem loopNo (o n : Int) (ps : List Tm) (hps : ps.length ≤ 1000) (h : ∀ p ∈ ps,callI G 64 [encT false p] [] = some (.i (nodesT p),[])) : ∀ (rest done : List Tm) (k : Nat),ps = done ++ rest → k ≤ 1000 →
    ∃ ex,loopI G [1,3,5,6] [1] c64l0 ⟨[(1,.ref (0,1) 1 0 0),(3,.i ps.length),(5,.i k),(6,.i done.length)],[(1,.box [.i o,.i n,encQ false ps])],[]⟩ = some ex ∧
      ((nodesL k rest = 0 ∧ rest ≠ [] ∧ ex = (.ret,⟨[(2,.i 0)],[],[]⟩)) ∨ (ex = (.exit 1,⟨[(1,.ref (0,1) 1 0 0),(3,.i ps.length),(5,.i (nodesL k rest)),(6,.i ps.length),(44,.b false)],[(1,.box [.i o,.i n,encQ false ps])],[]⟩)))
  | [],done,k,e,hk => by
    have e : ps = done := by simpa using e
    subst e
    refine ⟨_, ?_,.inr rfl⟩
    rw [loopI_eq]
    cases ps with
    | nil => simp [r64l0,b64l0,encQ,nodesL]
    | cons p ps =>
      rw [encQ_c false (List.cons_ne_nil p ps)]
      simp [r64l0,b64l0,nodesL]
  | x :: rest,done,k,e,hk => by
    have hpl : ps.length = done.length + (rest.length + 1) := by rw [e]; simp
    have hlt : (done.length : Int) < ps.length := by omega
    have hw : IntKind.i64.wrap ((done.length : Int) + 1) = (done.length : Int) + 1 := wr (by omega)
    have hat := tm_at done x rest
    rw [← e] at hat
    have hx := h x (by rw [e]; simp)
    have hne : ps ≠ [] := by rw [e]; simp
    have hle := nodesT_le x
    have hw2 : IntKind.i64.wrap ((k : Int) + (nodesT x : Int)) = (k : Int) + (nodesT x : Int) := wr (by omega)
    have hl3 : (encTs false ps).length = ps.length := encTs_len false ps
    have hlt2 : done.length < ps.length := by omega
    obtain ⟨x1,x2,x3,hX,hx3⟩ := encT_form false x
    rw [hX] at hat hx
    by_cases h0 : nodesT x = 0
    · refine ⟨_, ?_,.inl ⟨by simp [nodesL,h0],by simp,rfl⟩⟩
      rw [h0] at hx
      rw [loopI_eq,encQ_c false hne]
      generalize encTs false ps = F at hat hl3 ⊢
      rcases hx3 with rfl | ⟨L3,rfl⟩ <;> simp [r64l0,b64l0,hlt,hlt2,hat,hl3,hx]
    · obtain ⟨ex,hn,hr⟩ := loopNo o n ps hps h rest (done ++ [x]) (min 1000 (k + nodesT x)) (by rw [e]; simp) (by omega)
      have hmin : (if (k : Int) + (nodesT x : Int) < 1000 then (k : Int) + (nodesT x : Int) else 1000) = ((min 1000 (k + nodesT x) : Nat) : Int) := by
        split <;> omega
      refine ⟨ex, ?_, ?_⟩
      · rw [← hn,loopI_eq,encQ_c false hne]
        generalize encTs false ps = F at hat hl3 ⊢
        rcases hx3 with rfl | ⟨L3,rfl⟩ <;> simp [r64l0,b64l0,hlt,hlt2,hat,hl3,hx,h0,hw,hw2,hmin]
      · rcases hr with ⟨h1,h2,h3⟩ | h3
        · exact .inl ⟨by simp [nodesL,h0,h1],by simp,h3⟩
        · exact .inr (by rw [h3]; simp [nodesL,h0])
theorem eqHead (o n : Int) : headOk o n = true → (o = 0 ∧ n = 0) ∨ (o = 1 ∧ actOk n = true) ∨ (o = 2 ∧ n = 0) ∨ (o = 3 ∧ n = 0) ∨ (o = 4 ∧ 0 ≤ n ∧ n ≤ 3) ∨ (o = 5 ∧ 0 ≤ n ∧ n ≤ 2) := by
  intro h
  unfold headOk at h
  split at h
  · simp_all
  · split at h
    · simp_all
    · split at h
      · simp_all
        omega
      · split at h
        · simp_all
        · split at h
          · simp_all
          · cases h
theorem encQ_form (u : Bool) (ps : List Tm) : (encQ u ps = .nils ∧ ps = []) ∨ (∃ F : List PV,encQ u ps = .sl u 3 F ∧ F.length = ps.length ∧ ps ≠ []) := by
  cases ps with
  | nil => exact .inl ⟨by simp [encQ],rfl⟩
  | cons p ps => exact .inr ⟨_,encQ_c u (List.cons_ne_nil p ps),encTs_len u (p :: ps),by simp⟩
theorem eqNodes0 (o n : Int) (ps : List Tm) (hp : ∀ p ∈ ps,callI G 64 [encT false p] [] = some (.i (nodesT p),[])) (hh : headOk o n = true ∧ ps.length = wantN o) :
    callI G 64 [encT false (.mk o n ps)] [] = some (.i (nodesL 1 ps),[]) := by
  obtain ⟨hh,hlen⟩ := hh
  have h2 : ps.length ≤ 2 := by rw [hlen]; unfold wantN; (repeat' split) <;> omega
  have ha := eqActS n
  have hin := l6In n 0 3
  have hin2 := l6In n 0 2
  obtain ⟨ex,hlp,hx⟩ := loopNo o n ps (by omega) hp ps [] 1 rfl (by omega)
  simp only [List.length_nil,show ((0 : Nat) : Int) = 0 from rfl,show ((1 : Nat) : Int) = 1 from rfl] at hlp hx
  have hex : ex = (.ret,⟨[(2,.i (nodesL 1 ps))],[],[]⟩) ∨ ex = (.exit 1,⟨[(1,.ref (0,1) 1 0 0),(3,.i ps.length),(5,.i (nodesL 1 ps)),(6,.i ps.length),(44,.b false)],[(1,.box [.i o,.i n,encQ false ps])],[]⟩) := by
    rcases hx with ⟨h1,_,h3⟩ | h3
    · exact .inl (by rw [h3,h1]; rfl)
    · exact .inr h3
  clear hx
  simp only [encT]
  generalize nodesL 1 ps = R at hex ⊢
  rw [callI_eq]
  rcases eqHead o n hh with ⟨rfl,rfl⟩ | ⟨rfl,h⟩ | ⟨rfl,rfl⟩ | ⟨rfl,rfl⟩ | ⟨rfl,h⟩ | ⟨rfl,h⟩
  · have hl : ps.length = 0 := by simpa [wantN] using hlen
    obtain rfl : ps = [] := List.length_eq_zero_iff.1 hl
    simp only [encQ,List.length_nil,show ((0 : Nat) : Int) = 0 from rfl] at hlp hex ⊢
    rcases hex with rfl | rfl <;> simp [body1_eq _ _ (gp 64) g64,c64,a64,hlp]
  · have hl : ps.length = 1 := by simpa [wantN] using hlen
    rw [h] at ha
    rcases encQ_form false ps with ⟨_,e0⟩ | ⟨F,e,e1,_⟩
    · rw [e0] at hl; simp at hl
    · rw [e] at hlp hex ⊢
      rw [hl] at hlp hex e1
      simp only [show ((1 : Nat) : Int) = 1 from rfl] at hlp hex
      rcases hex with rfl | rfl <;> simp [body1_eq _ _ (gp 64) g64,c64,a64,hlp,ha,e1]
  · have hl : ps.length = 2 := by simpa [wantN] using hlen
    rcases encQ_form false ps with ⟨_,e0⟩ | ⟨F,e,e1,_⟩
    · rw [e0] at hl; simp at hl
    · rw [e] at hlp hex ⊢
      rw [hl] at hlp hex e1
      simp only [show ((2 : Nat) : Int) = 2 from rfl] at hlp hex
      rcases hex with rfl | rfl <;> simp [body1_eq _ _ (gp 64) g64,c64,a64,hlp,e1]
  · have hl : ps.length = 2 := by simpa [wantN] using hlen
    rcases encQ_form false ps with ⟨_,e0⟩ | ⟨F,e,e1,_⟩
    · rw [e0] at hl; simp at hl
    · rw [e] at hlp hex ⊢
      rw [hl] at hlp hex e1
      simp only [show ((2 : Nat) : Int) = 2 from rfl] at hlp hex
      rcases hex with rfl | rfl <;> simp [body1_eq _ _ (gp 64) g64,c64,a64,hlp,e1]
  · have hl : ps.length = 1 := by simpa [wantN] using hlen
    have d1 := h.1
    have d2 := h.2
    simp [d1,d2] at hin hin2
    rcases encQ_form false ps with ⟨_,e0⟩ | ⟨F,e,e1,_⟩
    · rw [e0] at hl; simp at hl
    · rw [e] at hlp hex ⊢
      rw [hl] at hlp hex e1
      simp only [show ((1 : Nat) : Int) = 1 from rfl] at hlp hex
      rcases hex with rfl | rfl <;> simp [body1_eq _ _ (gp 64) g64,c64,a64,hlp,hin,e1]
  · have hl : ps.length = 0 := by simpa [wantN] using hlen
    have d1 := h.1
    have d2 := h.2
    simp [d1,d2] at hin2
    obtain rfl : ps = [] := List.length_eq_zero_iff.1 hl
    simp only [encQ,List.length_nil,show ((0 : Nat) : Int) = 0 from rfl] at hlp hex ⊢
    rcases hex with rfl | rfl <;> simp [body1_eq _ _ (gp 64) g64,c64,a64,hlp,hin2]
theorem eqNodesN (o n : Int) (ps : List Tm) (hh : ¬(headOk o n = true ∧ ps.length = wantN o)) : callI G 64 [encT false (.mk o n ps)] [] = some (.i 0,[]) := by
  have ha := eqActS n
  have hin := l6In n 0 3
  have hin2 := l6In n 0 2
  simp only [encT]
  rw [callI_eq]
  by_cases o0 : o = 0
  · subst o0
    by_cases hk : n = 0
    · have hl : ps.length ≠ 0 := fun e => hh ⟨by simp [headOk,hk],by simp [wantN,e]⟩
      rcases encQ_form false ps with ⟨e,e0⟩ | ⟨F,e,e1,_⟩ <;> rw [e]
      · rw [e0] at hl; simp at hl
      · have hl2 : ¬ ((ps.length : Int) = 0) := by omega
        simp [body1_eq _ _ (gp 64) g64,c64,a64,hk,e1,hl2,hl]
    · rcases encQ_form false ps with ⟨e,e0⟩ | ⟨F,e,e1,_⟩ <;> rw [e] <;>
        simp [body1_eq _ _ (gp 64) g64,c64,a64,hk]
  by_cases o1 : o = 1
  · subst o1
    by_cases hk : actOk n = true
    · have hl : ps.length ≠ 1 := fun e => hh ⟨by simp [headOk,hk],by simp [wantN,e]⟩
      rcases encQ_form false ps with ⟨e,e0⟩ | ⟨F,e,e1,_⟩ <;> rw [e]
      · simp [body1_eq _ _ (gp 64) g64,c64,a64,ha,hk]
      · have hl2 : ¬ ((ps.length : Int) = 1) := by omega
        simp [body1_eq _ _ (gp 64) g64,c64,a64,ha,hk,e1,hl2,hl]
    · rcases encQ_form false ps with ⟨e,e0⟩ | ⟨F,e,e1,_⟩ <;> rw [e] <;>
        simp [body1_eq _ _ (gp 64) g64,c64,a64,ha,hk]
  by_cases o2 : o = 2
  · subst o2
    by_cases hk : n = 0
    · have hl : ps.length ≠ 2 := fun e => hh ⟨by simp [headOk,hk],by simp [wantN,e]⟩
      rcases encQ_form false ps with ⟨e,e0⟩ | ⟨F,e,e1,_⟩ <;> rw [e]
      · simp [body1_eq _ _ (gp 64) g64,c64,a64,hk]
      · have hl2 : ¬ ((ps.length : Int) = 2) := by omega
        simp [body1_eq _ _ (gp 64) g64,c64,a64,hk,e1,hl2,hl]
    · rcases encQ_form false ps with ⟨e,e0⟩ | ⟨F,e,e1,_⟩ <;> rw [e] <;>
        simp [body1_eq _ _ (gp 64) g64,c64,a64,hk]
  by_cases o3 : o = 3
  · subst o3
    by_cases hk : n = 0
    · have hl : ps.length ≠ 2 := fun e => hh ⟨by simp [headOk,hk],by simp [wantN,e]⟩
      rcases encQ_form false ps with ⟨e,e0⟩ | ⟨F,e,e1,_⟩ <;> rw [e]
      · simp [body1_eq _ _ (gp 64) g64,c64,a64,hk]
      · have hl2 : ¬ ((ps.length : Int) = 2) := by omega
        simp [body1_eq _ _ (gp 64) g64,c64,a64,hk,e1,hl2,hl]
    · rcases encQ_form false ps with ⟨e,e0⟩ | ⟨F,e,e1,_⟩ <;> rw [e] <;>
        simp [body1_eq _ _ (gp 64) g64,c64,a64,hk]
  by_cases o4 : o = 4
  · subst o4
    generalize hb : (decide (0 ≤ n) && decide (n ≤ 3)) = b at hin
    by_cases hk : b = true
    · have hl : ps.length ≠ 1 := fun e => hh ⟨by simp [headOk,hb,hk],by simp [wantN,e]⟩
      rcases encQ_form false ps with ⟨e,e0⟩ | ⟨F,e,e1,_⟩ <;> rw [e]
      · simp [body1_eq _ _ (gp 64) g64,c64,a64,hin,hk]
      · have hl2 : ¬ ((ps.length : Int) = 1) := by omega
        simp [body1_eq _ _ (gp 64) g64,c64,a64,hin,hk,e1,hl2,hl]
    · rcases encQ_form false ps with ⟨e,e0⟩ | ⟨F,e,e1,_⟩ <;> rw [e] <;>
        simp [body1_eq _ _ (gp 64) g64,c64,a64,hin,hk]
  by_cases o5 : o = 5
  · subst o5
    generalize hb : (decide (0 ≤ n) && decide (n ≤ 2)) = b at hin2
    by_cases hk : b = true
    · have hl : ps.length ≠ 0 := fun e => hh ⟨by simp [headOk,hb,hk],by simp [wantN,e]⟩
      rcases encQ_form false ps with ⟨e,e0⟩ | ⟨F,e,e1,_⟩ <;> rw [e]
      · rw [e0] at hl; simp at hl
      · have hl2 : ¬ ((ps.length : Int) = 0) := by omega
        simp [body1_eq _ _ (gp 64) g64,c64,a64,hin2,hk,e1,hl2,hl]
    · rcases encQ_form false ps with ⟨e,e0⟩ | ⟨F,e,e1,_⟩ <;> rw [e] <;>
        simp [body1_eq _ _ (gp 64) g64,c64,a64,hin2,hk]
  rcases encQ_form false ps with ⟨e,e0⟩ | ⟨F,e,e1,_⟩ <;> rw [e] <;>
    simp [body1_eq _ _ (gp 64) g64,c64,a64,o0,o1,o2,o3,o4,o5]
theorem eqNodes : ∀ t : Tm,callI G 64 [encT false t] [] = some (.i (nodesT t),[])
  | .mk o n ps => by
    have hp : ∀ p ∈ ps,callI G 64 [encT false p] [] = some (.i (nodesT p),[]) := fun p hp => eqNodes p
    unfold nodesT
    split
    · rename_i hh
      exact eqNodes0 o n ps hp hh
    · rename_i hh
      exact eqNodesN o n ps hh
  termination_by t => SizeOf.sizeOf t
  decreasing_by
    have := List.sizeOf_lt_of_mem hp
    simp
    omega
end Go.Am
end
