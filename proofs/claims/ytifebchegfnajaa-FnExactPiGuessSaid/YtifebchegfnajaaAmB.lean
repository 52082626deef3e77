/- The abstract machine's steps are those of the model. -/
import Derived.Test.YtifebchegfnajaaAmA
import Derived.Orders
import GoSem.ClaimChange
import Derived.ProofKit
section
/- Every operation but a call: what the machine yields, the model does. -/
set_option linter.unusedSimpArgs false
set_option linter.unusedVariables false
namespace Go.Am
open Go.RowKit
def opArgs : Op → List Operand
  | .move x | .assign x | .nilCheck x | .box _ x | .load _ x | .unOp _ _ x | .convert _ _ x | .fieldAddr _ x _ | .field _ x _ | .extract x _ => [x]
  | .pick c a b => [c, a, b]
  | .build _ ps | .buildSlice _ _ ps => ps.toList.map (·.2)
  | .store _ a x => [a, x]
  | .binOp _ _ x y _ => [x, y]
  | .makeFunc _ _ cs => cs.toList
  | .makeSlice _ l c => [l, c]
  | .indexAddr _ x i | .index _ x i => [x, i]
  | .call c => match c.callee with | .value f => f :: c.args.toList | _ => c.args.toList
  | _ => []
def okBslice (P : Program) (t : TypeId) (k n : Nat) (is : List Nat) : Bool :=
  match elemOfS P t with
  | some (_, i) => decide (i.size = k) && decide (0 < k) && i.zero.isSome && decide (n * k ≤ 16777216) && is == List.range' 0 n
  | none => false
def okMk (P : Program) (t : TypeId) (k : Nat) (z : PV) : Bool :=
  match elemOfS P t with
  | some (_, i) => match i.zero with
    | some zv => decide (i.size = k) && decide (0 < k) && decide (i.bytes ≤ 65536) && litsOK z.cells zv.cells.toList && flatE z && tree z && decide (z.cells.length = k)
    | none => false
  | none => false
def isInt (P : Program) (t : TypeId) (k : IntKind) : Bool := match P.underlying t with | some (.int k') => decide (k' = k) | _ => false
def okBuiltin (P : Program) (k : K) (b : Builtin) (ts : List TypeId) : Bool :=
  match k, b, ts with
  | .len, .len, [t] => isSl P t
  | .lens, .len, [t] => isStr P t
  | .append k _, .append, [t, t'] => t == t' && appOf P t k
  | .min2, .min, _ => true
  | .max2, .max, _ => true
  | _, _, _ => false
def okOp (P : Program) (k : K) (op : Op) : Bool :=
  match k, op with
  | .move, .move _ => true
  | .move, .assign _ => true
  | .pick, .pick _ _ _ => true
  | .nck, .nilCheck _ => true
  | .alloc z, .alloc t => zeroOK P t z
  | .box, .box _ _ => true
  | .build z offs, .build t ps => buildOK P t (ps.toList.map (·.1)) z offs
  | .bslice k _, .buildSlice t n ps => decide (n = ps.size) && okBslice P t k n (ps.toList.map (·.1))
  | .load k _, .load t _ => kindOf P t == some k
  | .store wd _, .store t _ _ => (P.info? t).map (·.size) == some wd
  | .bin b, .binOp o _ _ _ _ => bkOK b o
  | .beq, .binOp .eql t _ _ _ => isBool P t
  | .bne, .binOp .neq t _ _ _ => isBool P t
  | .not, .unOp .not _ _ => true
  | .neg, .unOp .neg _ _ => true
  | .faddr off, .fieldAddr t _ f => (fieldOf P t f).map (·.1) == some off
  | .iaddr es, .indexAddr t _ _ => (elemOfS P t).map (·.2.size) == some es
  | .iarr es n, .indexAddr t _ _ => (arrOf P t).map (fun x => (x.1, x.2.2)) == some (n, es)
  | .idx k es n, .index t _ _ => (match arrOf P t with | some (m, e, s) => decide (m = n) && decide (s = es) && kindOf P e == some k | none => false)
  | .istr, .index t _ _ => isStr P t
  | .fld k off, .field t _ f => (match fieldOf P t f with | some (o, ft) => decide (o = off) && kindOf P ft == some k | none => false)
  | .ext i, .extract _ j => i == j
  | .mkslice k z, .makeSlice t _ _ => okMk P t k z
  | .mkfunc f, .makeFunc (.func g) first _ => f == g && first.size == 0
  | .conv k, .convert s t _ => (P.underlying s).isSome && isInt P t k
  | .isnil, .binOp .eql t _ (.const (.slice none 0 0)) _ => isSl P t
  | .take, .load t _ => kindOf P t == some none
  | k, .call c => (match c.callee with | .builtin b => okBuiltin P k b c.argTypes.toList | _ => false)
  | _, _ => false
section
variable {P : Program} {c : Ctx} {S : Sto} {w : World} {fp : Id → List Nat}
theorem yield_now {x : PV} {v : Value} (ok : StOK c S (hp w) fp) (r : RVal c S (hp w) x v) : Yield P c S w (pure (.value v)) S x :=
  ⟨_, v, w, c, fp, rfl, .inl rfl, ok, Adv.refl _ _, r, Grew.refl _⟩
theorem yield_congr {m m' : Sem Next} {S' x} (h : m.run P w = m'.run P w) (y : Yield P c S w m' S' x) : Yield P c S w m S' x := by
  obtain ⟨nx, v, w', c', fp', h1, h2⟩ := y
  exact ⟨nx, v, w', c', fp', h.trans h1, h2⟩
theorem yield_pick {ρ : Operand → Value} {co a b : Operand} {t : Bool} {x y : PV} (ok : StOK c S (hp w) fp) (h1 : RVal c S (hp w) (.b t) (ρ co)) (h2 : RVal c S (hp w) x (ρ a)) (h3 : RVal c S (hp w) y (ρ b)) :
    Yield P c S w (do pure (.value (if ← asBool (ρ co) then ρ a else ρ b))) S (if t then x else y) := by
  have := sc_eq h1
  cases t
  · exact ⟨_, ρ b, w, c, fp, by simp [this, asBool], .inl rfl, ok, Adv.refl _ _, h3, Grew.refl _⟩
  · exact ⟨_, ρ a, w, c, fp, by simp [this, asBool], .inl rfl, ok, Adv.refl _ _, h2, Grew.refl _⟩
theorem clo_yield {f : Nat} {ps : List PV} {vs : List Value} (ok : StOK c S (hp w) fp) (h : ps.all (fun x => sure x && cellP x) = true) (r : RVals c S (hp w) ps vs) :
    Yield P c S w (do pure (.value (← Instr.makeFunc (.func f) #[] vs.toArray))) S (.clo f ps) := by
  have h' : ∀ x ∈ ps, sure x = true ∧ cellP x = true := fun x hx => by have := List.all_eq_true.1 h x hx; simpa using this
  obtain ⟨h1, h2⟩ := RVals_cells h' r
  exact yield_pure ok (by simp [Instr.makeFunc]) ⟨rfl, vs, rfl, h2, h1⟩
theorem istr_yield (ok : StOK c S (hp w) fp) {t : TypeId} {b : ByteArray} {i : Int} {v u : Value} (ht : isStr P t = true) (h : 0 ≤ i ∧ i.toNat < b.size) (hx : RVal c S (hp w) (.s b) v) (hu : RVal c S (hp w) (.i i) u) :
    Yield P c S w (do pure (.value (← Instr.index t v u))) S (.sc (.int .u8 (b[i.toNat]'h.2).toNat)) := by
  rw [sc_eq hx, sc_eq hu]
  unfold isStr at ht
  split at ht
  · rename_i hty
    refine yield_pure ok (v := .int .u8 (b[i.toNat]'h.2).toNat) ?_ (sc_of rfl)
    have h2 : b[i.toNat]? = some (b[i.toNat]'h.2) := getElem?_pos b i.toNat h.2
    simp [Instr.index, asIntOf, run_underlying hty, h.1, h2]
  · cases ht
theorem max_yield (ok : StOK c S (hp w) fp) {a b : Int} {v u : Value} {ts : Array TypeId} {t : TypeId} (hx : RVal c S (hp w) (.i a) v) (hy : RVal c S (hp w) (.i b) u) :
    Yield P c S w (do pure (.value (← Builtin.max_ ts t #[v, u]))) S (.i (if a < b then b else a)) := by
  rw [sc_eq hx, sc_eq hy]
  exact yield_pure ok (by simp [Builtin.max_, Builtin.max2]) (sc_of rfl)
theorem nck_value {v : Value} {ρ : Operand → Value} {x : Operand} {o : Oper} (ho : o.op = .nilCheck x) (hv : ρ x = v) (h : (∃ a, v = .pointer (some a)) ∨ ∃ f a b, v = .func (.func f) a b) : (execOp ρ o).run P w = .ok (.value v) w := by
  rcases h with ⟨a, rfl⟩ | ⟨f, a, b, rfl⟩ <;> simp [execOp, ho, hv]
theorem run_equalIn_slnil (d : Nat) {t e : TypeId} (h : P.underlying t = some (.slice e)) {a : Addr} {m q : Nat} : (Op.equalIn (d + 1) t (.slice (some a) m q) (.slice none 0 0)).run P w = .ok false w := by
  simp [Op.equalIn, run_underlying h]
theorem isnil_yield (ok : StOK c S (hp w) fp) {t : TypeId} (ht : isSl P t = true) {u : Bool} {k : Nat} {x : PV} {xs : List PV} {v : Value} {ox oy : Operand} (hx : RVal c S (hp w) (.sl u k (x :: xs)) v) :
    Yield P c S w (do pure (.value (← (do eqGuard .eql t ox oy v (.slice none 0 0); binOp .eql t v (.slice none 0 0))))) S (.b false) := by
  obtain ⟨a, m, q, rfl⟩ : ∃ a m q, v = .slice (some a) m q := by
    cases u with
    | false =>
      obtain ⟨_, _, _, A, cp, e, r⟩ := hx
      rcases r with r | ⟨g, off, cur, et, fr, ws, h1, _⟩
      · cases r
      · rw [h1] at e; exact ⟨_, _, _, (List.cons.inj e).1⟩
    | true =>
      obtain ⟨_, _, A, cp, e, r⟩ := hx
      rcases r with r | ⟨g, cur, et, ws, fq, h1, _⟩
      · cases r.1
      · rw [h1] at e; exact ⟨_, _, _, (List.cons.inj e).1⟩
  refine yield_pure ok ?_ (sc_of rfl)
  unfold isSl at ht
  split at ht
  · rename_i el hu
    have : (Op.equal t (.slice (some a) m q) (.slice none 0 0)).run P w = .ok false w := run_equalIn_slnil 9999 hu
    simp [eqGuard, binOp, this]
  · cases ht
theorem noneE {α : Type} {x : α} {C : Prop} (h : none = some x) : C := by cases h
set_option maxHeartbeats 1000000 in
theorem op_sound {o : Oper} {ρ : Operand → Value} (hρ : ∀ v, ρ (.const v) = v) {k : K} {ps : List PV} {n d : Nat} {y : PV} {ws : List (Id × OB)} (hlv : ∀ i ob, S i = some ob → i.1 ≤ n) (ok : StOK c S (hp w) fp) (hk : okOp P k o.op = true)
    (r : RVals c S (hp w) ps ((opArgs o.op).map ρ)) (e : core1 n d S k ps = some (y, ws)) : Yield P c S w (execOp ρ o) (upds S ws) y := by
  obtain ⟨dst, op, type, pos, after, guard⟩ := o
  simp only at hk r ⊢
  unfold okOp at hk
  split at hk
  · -- move
    obtain ⟨x, rfl, h1⟩ := RVals_inv1 r
    simp only [core1, Option.some.injEq, Prod.mk.injEq] at e
    obtain ⟨rfl, rfl⟩ := e
    exact yield_now ok h1
  · -- assign
    obtain ⟨x, rfl, h1⟩ := RVals_inv1 r
    simp only [core1, Option.some.injEq, Prod.mk.injEq] at e
    obtain ⟨rfl, rfl⟩ := e
    exact yield_now ok h1
  · -- pick
    obtain ⟨x, y', z, rfl, h1, h2, h3⟩ := RVals_inv3 r
    cases x <;> try (exact noneE e)
    rename_i v
    cases v <;> try (exact noneE e)
    simp only [core1, Option.some.injEq, Prod.mk.injEq] at e
    obtain ⟨rfl, rfl⟩ := e
    exact yield_pick ok h1 h2 h3
  · -- nilCheck
    rename_i x0
    obtain ⟨x, rfl, h1⟩ := RVals_inv1 r
    cases x <;> try (exact noneE e)
    · rename_i id m i j
      simp only [core1] at e
      split at e
      · rename_i hl
        simp only [Option.some.injEq, Prod.mk.injEq] at e
        obtain ⟨rfl, rfl⟩ := e
        obtain ⟨o, hv, _⟩ := ref_cases (one_of_ref h1).2 hl
        exact ⟨_, _, w, c, fp, nck_value (o := ⟨dst, .nilCheck x0, type, pos, after, guard⟩) rfl rfl (.inl ⟨_, hv⟩), .inl rfl, ok, Adv.refl _ _, h1, Grew.refl _⟩
      · cases e
    · simp only [core1, Option.some.injEq, Prod.mk.injEq] at e
      obtain ⟨rfl, rfl⟩ := e
      obtain ⟨_, g, o, cur, et, fr, ws, hv, _⟩ := (id h1 : R _ _ _ _ _ _)
      have hv := (List.cons.inj hv).1
      exact ⟨_, _, w, c, fp, nck_value (o := ⟨dst, .nilCheck x0, type, pos, after, guard⟩) rfl rfl (.inl ⟨_, hv⟩), .inl rfl, ok, Adv.refl _ _, h1, Grew.refl _⟩
    · simp only [core1, Option.some.injEq, Prod.mk.injEq] at e
      obtain ⟨rfl, rfl⟩ := e
      obtain ⟨_, ws, hv, _⟩ := (id h1 : R _ _ _ _ _ _)
      have hv := (List.cons.inj hv).1
      exact ⟨_, _, w, c, fp, nck_value (o := ⟨dst, .nilCheck x0, type, pos, after, guard⟩) rfl rfl (.inr ⟨_, _, _, hv⟩), .inl rfl, ok, Adv.refl _ _, h1, Grew.refl _⟩
  · -- alloc
    rw [RVals_inv0 r] at e
    simp only [core1] at e
    split at e
    · rename_i hn
      simp only [Option.some.injEq, Prod.mk.injEq] at e
      obtain ⟨rfl, rfl⟩ := e
      exact alloc_yield ok (by simpa using hn) hk
    · cases e
  · -- box
    obtain ⟨x, rfl, h1⟩ := RVals_inv1 r
    simp only [core1] at e
    split at e
    · rename_i hn
      simp only [Option.some.injEq, Prod.mk.injEq] at e
      obtain ⟨rfl, rfl⟩ := e
      simp only [Bool.and_eq_true] at hn
      obtain ⟨hu, hc⟩ := sure_spec hn.2
      exact box_yield (id := (n, d)) ok hlv (by simpa using hn.1) hc hu h1
    · cases e
  · -- build
    simp only [core1] at e
    split at e
    · rename_i hb
      simp only [Option.some.injEq, Prod.mk.injEq] at e
      obtain ⟨rfl, rfl⟩ := e
      exact build_yield ok hk r hb
    · cases e
  · -- buildSlice
    rename_i kk mv t n' prs
    simp only [Bool.and_eq_true, decide_eq_true_eq] at hk
    obtain ⟨hn, hk⟩ := hk
    unfold okBslice at hk
    split at hk
    · rename_i el i hel
      simp only [Bool.and_eq_true, decide_eq_true_eq] at hk
      obtain ⟨⟨⟨⟨h1, h2⟩, h3⟩, h4⟩, h5⟩ := hk
      have h5 := eq_of_beq h5
      obtain ⟨z, hz⟩ := Option.isSome_iff_exists.1 h3
      have hvl : ((prs.toList.map (·.2)).map ρ).length = n' := by simp [hn]
      have hpz : (prs.map fun x => (x.1, ρ x.2)) = (((((prs.toList.map (·.2)).map ρ).zipIdx 0).map fun x => (x.2, x.1)).toArray) := by
        apply Array.ext'
        simp only [Array.toList_map]
        have hz1 : ∀ (l : List Value) (q : Nat), (l.zipIdx q).map (fun x => (x.2, x.1)) = (List.range' q l.length).zip l := by
          intro l
          induction l with
          | nil => intro q; rfl
          | cons a l ih => intro q; simp [List.zipIdx_cons, List.range'_succ, ih]
        rw [hz1, hvl, ← h5]
        simp only [List.map_map]
        rw [List.zip_map']
        simp [Function.comp_def]
      have hexec : execOp ρ ⟨dst, .buildSlice t n' prs, type, pos, after, guard⟩ = (do pure (.value (← Instr.buildSlice t ((prs.toList.map (·.2)).map ρ).length (((((prs.toList.map (·.2)).map ρ).zipIdx 0).map fun x => (x.2, x.1)).toArray)))) := by
        rw [hvl, ← hpz]; rfl
      rw [hexec]
      simp only [core1] at e
      cases ps with
      | nil =>
        simp only [Option.some.injEq, Prod.mk.injEq] at e
        obtain ⟨rfl, rfl⟩ := e
        simp only [opArgs, RVals] at r
        simp only [r]
        exact bslice0_yield ok hel
      | cons p qs =>
        simp only at e
        split at e
        · rename_i ys ws' hpk
          split at e
          · rename_i hc
            simp only [Option.some.injEq, Prod.mk.injEq] at e
            obtain ⟨rfl, rfl⟩ := e
            simp only [Bool.and_eq_true, List.all_eq_true, decide_eq_true_eq] at hc
            exact bslice_yield ok hel h1 h2 hz r hpk hc.1.1 (by simpa using hc.1.2) hc.2 (by rw [hvl]; exact h4) (by simp)
          · cases e
        · cases e
    · cases hk
  · -- load
    rename_i kk tk t a
    obtain ⟨x, rfl, h1⟩ := RVals_inv1 r
    have hk := eq_of_beq hk
    cases x <;> try (exact noneE e)
    · rename_i id m i j
      simp only [core1] at e
      split at e
      · rename_i ob hob
        split at e
        · rename_i cs hcs
          split at e
          · rename_i v hv
            split at e
            · rename_i hp
              simp only [Option.some.injEq, Prod.mk.injEq] at e
              obtain ⟨rfl, rfl⟩ := e
              exact load_yield ok hk hob hcs hv hp h1
            · cases e
          · cases e
        · cases e
      · cases e
    · simp only [core1] at e
      split at e
      · rename_i v hv
        simp only [Option.some.injEq, Prod.mk.injEq] at e
        obtain ⟨rfl, rfl⟩ := e
        exact loadI_yield ok hk hv h1
      · cases e
  · -- store
    obtain ⟨x, y', rfl, h1, h2⟩ := RVals_inv2 r
    obtain ⟨h3, rfl⟩ := store_yield ok (eq_of_beq hk) h1 h2 e
    exact h3.toY
  · -- bin
    obtain ⟨x, y', rfl, h1, h2⟩ := RVals_inv2 r
    simp only [core1] at e
    split at e
    · rename_i v hv
      simp only [Option.some.injEq, Prod.mk.injEq] at e
      obtain ⟨rfl, rfl⟩ := e
      exact bin_yield ok hk h1 h2 hv
    · cases e
  · -- beq
    obtain ⟨x, y', rfl, h1, h2⟩ := RVals_inv2 r
    cases x <;> try (exact noneE e)
    rename_i v
    cases v <;> try (exact noneE e)
    cases y' <;> try (exact noneE e)
    rename_i v
    cases v <;> try (exact noneE e)
    simp only [core1, Option.some.injEq, Prod.mk.injEq] at e
    obtain ⟨rfl, rfl⟩ := e
    exact beq_yield ok hk h1 h2
  · -- bne
    obtain ⟨x, y', rfl, h1, h2⟩ := RVals_inv2 r
    cases x <;> try (exact noneE e)
    rename_i v
    cases v <;> try (exact noneE e)
    cases y' <;> try (exact noneE e)
    rename_i v
    cases v <;> try (exact noneE e)
    simp only [core1, Option.some.injEq, Prod.mk.injEq] at e
    obtain ⟨rfl, rfl⟩ := e
    exact bne_yield ok hk h1 h2
  · -- not
    obtain ⟨x, rfl, h1⟩ := RVals_inv1 r
    cases x <;> try (exact noneE e)
    rename_i v
    cases v <;> try (exact noneE e)
    simp only [core1, Option.some.injEq, Prod.mk.injEq] at e
    obtain ⟨rfl, rfl⟩ := e
    exact not_yield ok h1
  · -- neg
    obtain ⟨x, rfl, h1⟩ := RVals_inv1 r
    cases x <;> try (exact noneE e)
    rename_i v
    cases v <;> try (exact noneE e)
    simp only [core1, Option.some.injEq, Prod.mk.injEq] at e
    obtain ⟨rfl, rfl⟩ := e
    exact neg_yield ok h1
  · -- faddr
    obtain ⟨⟨o', ft⟩, h0, h0'⟩ := Option.map_eq_some_iff.1 (eq_of_beq hk)
    simp only at h0'
    subst h0'
    obtain ⟨x, rfl, h1⟩ := RVals_inv1 r
    cases x <;> try (exact noneE e)
    · simp only [core1] at e
      split at e
      · rename_i hl
        simp only [Option.some.injEq, Prod.mk.injEq] at e
        obtain ⟨rfl, rfl⟩ := e
        exact faddr_yield ok h0 hl h1
      · cases e
    · simp only [core1, Option.some.injEq, Prod.mk.injEq] at e
      obtain ⟨rfl, rfl⟩ := e
      exact faddrI_yield ok h0 h1
  · -- iaddr
    obtain ⟨⟨el, ti⟩, h0, h0'⟩ := Option.map_eq_some_iff.1 (eq_of_beq hk)
    simp only at h0'
    obtain ⟨x, y', rfl, h1, h2⟩ := RVals_inv2 r
    cases y' <;> try (cases x <;> first | (exact noneE e) | (rename_i u _ _; cases u <;> (exact noneE e)); done)
    rename_i v
    cases v <;> try (cases x <;> first | (exact noneE e) | (rename_i u _ _; cases u <;> (exact noneE e)); done)
    rename_i kd q
    cases kd <;> try (cases x <;> first | (exact noneE e) | (rename_i u _ _; cases u <;> (exact noneE e)); done)
    cases x <;> try (exact noneE e)
    · rename_i u k' xs
      cases u <;> try (exact noneE e)
      simp only [core1] at e
      split at e
      · rename_i hc
        obtain ⟨rfl, hq⟩ := hc
        split at e
        · rename_i el' hel
          simp only [Option.some.injEq, Prod.mk.injEq] at e
          obtain ⟨rfl, rfl⟩ := e
          exact iaddrS_yield ok h0 h0' hq hel h1 h2
        · cases e
      · cases e
    · rename_i id m
      simp only [core1] at e
      split at e
      · rename_i k' xs hs
        split at e
        · rename_i hc
          obtain ⟨rfl, rfl, hq⟩ := hc
          simp only [Option.some.injEq, Prod.mk.injEq] at e
          obtain ⟨rfl, rfl⟩ := e
          exact iaddrO_yield ok h0 h0' hs hq h1 h2
        · cases e
      · rename_i k' xs hs
        split at e
        · rename_i hc
          obtain ⟨rfl, rfl, hq⟩ := hc
          split at e
          · rename_i el' hel
            simp only [Option.some.injEq, Prod.mk.injEq] at e
            obtain ⟨rfl, rfl⟩ := e
            exact iaddrF_yield ok h0 h0' hs hq hel h1 h2
          · cases e
        · cases e
      · cases e
  · -- iarr
    obtain ⟨⟨n', el, es'⟩, h0, h0'⟩ := Option.map_eq_some_iff.1 (eq_of_beq hk)
    simp only [Prod.mk.injEq] at h0'
    obtain ⟨rfl, rfl⟩ := h0'
    obtain ⟨x, y', rfl, h1, h2⟩ := RVals_inv2 r
    cases y' <;> try (cases x <;> (exact noneE e); done)
    rename_i v
    cases v <;> try (cases x <;> (exact noneE e); done)
    rename_i kd q
    cases kd <;> try (cases x <;> (exact noneE e); done)
    cases x <;> try (exact noneE e)
    · simp only [core1] at e
      split at e
      · rename_i hc
        simp only [Bool.and_eq_true] at hc
        simp only [Option.some.injEq, Prod.mk.injEq] at e
        obtain ⟨rfl, rfl⟩ := e
        exact iarr_yield ok h0 hc.1 hc.2 h1 h2
      · cases e
    · simp only [core1] at e
      split at e
      · rename_i hc
        simp only [Option.some.injEq, Prod.mk.injEq] at e
        obtain ⟨rfl, rfl⟩ := e
        exact iarrI_yield ok h0 hc h1 h2
      · cases e
  · -- idx
    split at hk
    · rename_i m el es' h0
      simp only [Bool.and_eq_true, decide_eq_true_eq] at hk
      obtain ⟨⟨rfl, rfl⟩, hk⟩ := hk
      obtain ⟨x, y', rfl, h1, h2⟩ := RVals_inv2 r
      cases y' <;> try (cases x <;> (exact noneE e); done)
      rename_i v
      cases v <;> try (cases x <;> (exact noneE e); done)
      rename_i kd q
      cases kd <;> try (cases x <;> (exact noneE e); done)
      cases x <;> try (exact noneE e)
      simp only [core1] at e
      split at e
      · rename_i hc
        split at e
        · rename_i v' hv
          simp only [Option.some.injEq, Prod.mk.injEq] at e
          obtain ⟨rfl, rfl⟩ := e
          exact idx_yield ok h0 (eq_of_beq hk) hc hv h1 h2
        · cases e
      · cases e
    · cases hk
  · -- istr
    obtain ⟨x, y', rfl, h1, h2⟩ := RVals_inv2 r
    cases x <;> try (exact noneE e)
    rename_i v
    cases v <;> try (exact noneE e)
    cases y' <;> try (exact noneE e)
    rename_i v
    cases v <;> try (exact noneE e)
    rename_i kd q
    cases kd <;> try (exact noneE e)
    simp only [core1] at e
    split at e
    · rename_i hc
      simp only [Option.some.injEq, Prod.mk.injEq] at e
      obtain ⟨rfl, rfl⟩ := e
      exact istr_yield ok hk hc h1 h2
    · cases e
  · -- fld
    split at hk
    · rename_i o' ft h0
      simp only [Bool.and_eq_true, decide_eq_true_eq] at hk
      obtain ⟨rfl, hk⟩ := hk
      obtain ⟨x, rfl, h1⟩ := RVals_inv1 r
      cases x <;> try (exact noneE e)
      simp only [core1] at e
      split at e
      · rename_i v' hv
        simp only [Option.some.injEq, Prod.mk.injEq] at e
        obtain ⟨rfl, rfl⟩ := e
        exact fld_yield ok h0 (eq_of_beq hk) hv h1
      · cases e
    · cases hk
  · -- ext
    obtain rfl := eq_of_beq hk
    obtain ⟨x, rfl, h1⟩ := RVals_inv1 r
    cases x <;> try (exact noneE e)
    simp only [core1] at e
    split at e
    · cases e
    · rename_i v' hnt hv
      simp only [Option.some.injEq, Prod.mk.injEq] at e
      obtain ⟨rfl, rfl⟩ := e
      exact ext_yield ok hv (fun qs hq => hnt qs (by first | exact hq | rw [hq])) h1
    · cases e
  · -- mkslice
    unfold okMk at hk
    split at hk
    · rename_i el i h0
      split at hk
      · rename_i zv hz
        simp only [Bool.and_eq_true, decide_eq_true_eq] at hk
        obtain ⟨⟨⟨⟨⟨⟨k1, k2⟩, k3⟩, k4⟩, k5⟩, k6⟩, k7⟩ := hk
        obtain ⟨x, y', rfl, h1, h2⟩ := RVals_inv2 r
        cases x <;> try (exact noneE e)
        rename_i v
        cases v <;> try (exact noneE e)
        rename_i kd q
        cases kd <;> try (exact noneE e)
        cases y' <;> try (exact noneE e)
        rename_i v
        cases v <;> try (exact noneE e)
        rename_i kd q
        cases kd <;> try (exact noneE e)
        simp only [core1] at e
        split at e
        · rename_i hc
          obtain ⟨rfl, c2, c3, c4⟩ := hc
          simp only [Option.some.injEq, Prod.mk.injEq] at e
          obtain ⟨rfl, rfl⟩ := e
          exact mkslice_yield ok h0 k1 k2 k3 hz k4 k5 k6 k7 (by simpa using c4) c2 c3 h1 h2
        · cases e
      · cases hk
    · cases hk
  · -- mkfunc
    rename_i f g first cs
    simp only [Bool.and_eq_true] at hk
    obtain ⟨hk1, hk2⟩ := hk
    obtain rfl := eq_of_beq hk1
    have hk2 := eq_of_beq hk2
    have hf : first = #[] := Array.eq_empty_of_size_eq_zero hk2
    subst hf
    simp only [core1] at e
    split at e
    · rename_i hc
      simp only [Option.some.injEq, Prod.mk.injEq] at e
      obtain ⟨rfl, rfl⟩ := e
      have := clo_yield (P := P) (f := f) ok hc r
      have hcs : ((opArgs (.makeFunc (.func f) #[] cs)).map ρ).toArray = cs.map ρ := by apply Array.ext'; simp [opArgs]
      rw [hcs] at this
      refine yield_congr ?_ this
      simp [execOp]
    · cases e
  · -- conv
    simp only [Bool.and_eq_true] at hk
    obtain ⟨x, rfl, h1⟩ := RVals_inv1 r
    cases x <;> try (exact noneE e)
    rename_i v
    cases v <;> try (exact noneE e)
    simp only [core1, Option.some.injEq, Prod.mk.injEq] at e
    obtain ⟨rfl, rfl⟩ := e
    have h2 := hk.2
    unfold isInt at h2
    split at h2
    · rename_i k' hu
      simp only [decide_eq_true_eq] at h2
      subst h2
      exact conv_yield ok hk.1 hu h1
    · cases h2
  · -- isnil
    rename_i t x0 ty0
    have hl : ((opArgs (.binOp .eql t x0 (.const (.slice none 0 0)) ty0)).map ρ) = [ρ x0, .slice none 0 0] := by simp [opArgs, hρ]
    obtain ⟨x, y', rfl, h1, h2⟩ := RVals_inv2 r
    cases x <;> try (exact noneE e)
    rename_i u kk xs
    cases xs <;> try (exact noneE e)
    simp only [core1, Option.some.injEq, Prod.mk.injEq] at e
    obtain ⟨rfl, rfl⟩ := e
    refine yield_congr ?_ (isnil_yield (ox := x0) (oy := .const (.slice none 0 0)) ok hk h1)
    simp [execOp, hρ]
  · -- take
    obtain ⟨x, rfl, h1⟩ := RVals_inv1 r
    cases x <;> try (exact noneE e)
    simp only [core1] at e
    split at e
    · rename_i k' xs hs
      split at e
      · rename_i hc
        split at e
        · rename_i el hel
          split at e
          · rename_i k2 ys hcj
            simp only [Option.some.injEq, Prod.mk.injEq] at e
            obtain ⟨rfl, rfl⟩ := e
            exact take_yield ok (eq_of_beq hk) hs hc.1 hel hcj (by simpa using hc.2) h1
          · cases e
        · cases e
      · cases e
    · cases e
  · -- builtins
    rename_i cl
    obtain ⟨callee, args, argTypes⟩ := cl
    simp only at hk
    split at hk
    · rename_i b
      have har : args.map ρ = ((opArgs (.call ⟨.builtin b, args, argTypes⟩)).map ρ).toArray := by apply Array.ext'; simp [opArgs]
      have hts : argTypes = argTypes.toList.toArray := by simp
      obtain ⟨cst, hexec⟩ : ∃ cst : Array Bool, ∀ w, (execOp ρ ⟨dst, .call ⟨.builtin b, args, argTypes⟩, type, pos, after, guard⟩).run P w = (builtin b argTypes type cst (args.map ρ)).run P w := ⟨_, fun w => by simp only [execOp, resolve, invoke, Sem.run_bind, Sem.run_pure, Result.andThen_ok]; exact rfl⟩
      generalize (opArgs (.call ⟨.builtin b, args, argTypes⟩)).map ρ = vs at r har
      generalize argTypes.toList = ts at hk hts
      refine yield_congr (hexec w) ?_
      rw [har, hts]
      unfold okBuiltin at hk
      split at hk
      · -- len
        cases ps with
        | nil => exact noneE e
        | cons x xs => cases xs with
          | cons _ _ => cases x <;> exact noneE e
          | nil =>
            obtain ⟨v, rfl, h1⟩ := RVals_one r
            cases x <;> try (exact noneE e)
            · simp only [core1, Option.some.injEq, Prod.mk.injEq] at e
              obtain ⟨rfl, rfl⟩ := e
              obtain ⟨_, A, hv⟩ := h1
              exact len_yield ok hk ⟨A, 0, by simpa using hv⟩
            · rename_i u k' xs
              simp only [core1, Option.some.injEq, Prod.mk.injEq] at e
              obtain ⟨rfl, rfl⟩ := e
              refine len_yield ok hk ?_
              cases u
              · obtain ⟨_, _, _, A, cp, hv, _⟩ := (id h1 : R _ _ _ _ _ _)
                exact ⟨A, cp, by simpa using hv⟩
              · obtain ⟨_, _, A, cp, hv, _⟩ := (id h1 : R _ _ _ _ _ _)
                exact ⟨A, cp, by simpa using hv⟩
            · rename_i id m
              obtain ⟨_, v', hv, _, hv2⟩ := h1
              obtain rfl : v = v' := by simpa using hv
              simp only [core1] at e
              split at e
              · rename_i k' xs hs
                split at e
                · rename_i hm
                  simp only [Option.some.injEq, Prod.mk.injEq] at e
                  obtain ⟨rfl, rfl⟩ := e
                  simp only [OwnOK, hs] at hv2
                  exact len_yield ok hk ⟨_, _, hv2.2 hm⟩
                · cases e
              · rename_i k' xs hs
                split at e
                · rename_i hm
                  simp only [Option.some.injEq, Prod.mk.injEq] at e
                  obtain ⟨rfl, rfl⟩ := e
                  simp only [OwnOK, hs] at hv2
                  exact len_yield ok hk ⟨_, _, hv2.2 hm⟩
                · cases e
              · cases e
            · rename_i id
              obtain ⟨_, v', hv, _, hv2⟩ := h1
              simp only [core1] at e
              split at e
              · rename_i es hs
                exact (ok.ob _ _ hs).elim
              · cases e
      · -- lens
        cases ps with
        | nil => exact noneE e
        | cons x xs => cases xs with
          | cons _ _ => cases x <;> try (exact noneE e)
                        rename_i v; cases v <;> exact noneE e
          | nil =>
            obtain ⟨v, rfl, h1⟩ := RVals_one r
            cases x <;> try (exact noneE e)
            rename_i u
            cases u <;> try (exact noneE e)
            simp only [core1, Option.some.injEq, Prod.mk.injEq] at e
            obtain ⟨rfl, rfl⟩ := e
            exact lens_yield ok hk h1
      · -- append
        simp only [Bool.and_eq_true] at hk
        obtain ⟨hk1, hk2⟩ := hk
        obtain rfl := eq_of_beq hk1
        cases ps with
        | nil => exact noneE e
        | cons x xs => cases xs with
          | nil => exact noneE e
          | cons y' ys => cases ys with
            | cons _ _ => exact noneE e
            | nil =>
              obtain ⟨v, u, rfl, h1, h2⟩ := RVals_two r
              exact append_yield ok hk2 h1 h2 e
      · -- min
        cases ps with
        | nil => exact noneE e
        | cons x xs => cases xs with
          | nil => cases x <;> try (exact noneE e)
                   rename_i v; cases v <;> try (exact noneE e)
                   rename_i kd _; cases kd <;> exact noneE e
          | cons y' ys => cases ys with
            | cons _ _ =>
              cases x <;> try (exact noneE e)
              rename_i v
              cases v <;> try (exact noneE e)
              rename_i kd _
              cases kd <;> try (exact noneE e)
              cases y' <;> try (exact noneE e)
              rename_i v
              cases v <;> try (exact noneE e)
              rename_i kd _
              cases kd <;> exact noneE e
            | nil =>
              obtain ⟨v, u, rfl, h1, h2⟩ := RVals_two r
              cases x <;> try (exact noneE e)
              rename_i v
              cases v <;> try (exact noneE e)
              rename_i kd _
              cases kd <;> try (exact noneE e)
              cases y' <;> try (exact noneE e)
              rename_i v
              cases v <;> try (exact noneE e)
              rename_i kd _
              cases kd <;> try (exact noneE e)
              simp only [core1, Option.some.injEq, Prod.mk.injEq] at e
              obtain ⟨rfl, rfl⟩ := e
              exact min_yield ok h1 h2
      · -- max
        cases ps with
        | nil => exact noneE e
        | cons x xs => cases xs with
          | nil => cases x <;> try (exact noneE e)
                   rename_i v; cases v <;> try (exact noneE e)
                   rename_i kd _; cases kd <;> exact noneE e
          | cons y' ys => cases ys with
            | cons _ _ =>
              cases x <;> try (exact noneE e)
              rename_i v
              cases v <;> try (exact noneE e)
              rename_i kd _
              cases kd <;> try (exact noneE e)
              cases y' <;> try (exact noneE e)
              rename_i v
              cases v <;> try (exact noneE e)
              rename_i kd _
              cases kd <;> exact noneE e
            | nil =>
              obtain ⟨v, u, rfl, h1, h2⟩ := RVals_two r
              cases x <;> try (exact noneE e)
              rename_i v
              cases v <;> try (exact noneE e)
              rename_i kd _
              cases kd <;> try (exact noneE e)
              cases y' <;> try (exact noneE e)
              rename_i v
              cases v <;> try (exact noneE e)
              rename_i kd _
              cases kd <;> try (exact noneE e)
              simp only [core1, Option.some.injEq, Prod.mk.injEq] at e
              obtain ⟨rfl, rfl⟩ := e
              exact max_yield ok h1 h2
      · cases hk
    · cases hk
  · cases hk
end
end Go.Am
end
section
/- A call's view: some objects are hidden; after it they stand as before. -/
set_option linter.unusedSimpArgs false
set_option linter.unusedVariables false
namespace Go.Am
open Go.RowKit
mutual
/-- Names objects below a height alone. -/
def inLv (m : Nat) : PV → Bool
  | .own id _ | .ref id _ _ _ | .mp id => decide (id.1 < m)
  | .clo _ cs | .agg cs | .tup cs | .bx cs => inLvs m cs
  | _ => true
def inLvs (m : Nat) : List PV → Bool
  | [] => true
  | x :: xs => inLv m x && inLvs m xs
end
mutual
theorem inLv_up {n : Nat} : ∀ {x : PV}, upTo n x = true → inLv (n + 1) x = true
  | .undef, _ | .sc _, _ | .nils, _ | .sl _ _ _, _ | .iref _ _, _ | .non, _ => rfl
  | .own _ _, t | .ref _ _ _ _, t | .mp _, t => by simp only [upTo, decide_eq_true_eq] at t; simp only [inLv, decide_eq_true_eq]; omega
  | .clo _ cs, t | .agg cs, t | .tup cs, t | .bx cs, t => by simp only [upTo] at t; simp only [inLv]; exact inLvs_up t
theorem inLvs_up {n : Nat} : ∀ {xs : List PV}, upTos n xs = true → inLvs (n + 1) xs = true
  | [], _ => rfl
  | x :: xs, t => by
    simp only [upTos, Bool.and_eq_true] at t
    simp only [inLvs, Bool.and_eq_true]
    exact ⟨inLv_up t.1, inLvs_up t.2⟩
end
mutual
theorem inLv_noRef {m : Nat} : ∀ {x : PV}, noRef x = true → inLv m x = true
  | .undef, _ | .sc _, _ | .nils, _ | .sl _ _ _, _ | .iref _ _, _ | .non, _ => rfl
  | .own _ _, t | .ref _ _ _ _, t | .mp _, t => by simp [noRef] at t
  | .clo _ cs, t | .agg cs, t | .tup cs, t | .bx cs, t => by simp only [noRef] at t; simp only [inLv]; exact inLvs_noRef t
theorem inLvs_noRef {m : Nat} : ∀ {xs : List PV}, noRefs xs = true → inLvs m xs = true
  | [], _ => rfl
  | x :: xs, t => by
    simp only [noRefs, Bool.and_eq_true] at t
    simp only [inLvs, Bool.and_eq_true]
    exact ⟨inLv_noRef t.1, inLvs_noRef t.2⟩
end
mutual
theorem inLv_at {n : Nat} : ∀ {x : PV}, upTo n x = true → atLvl n x = false → inLv n x = true
  | .undef, _, _ | .sc _, _, _ | .nils, _, _ | .sl _ _ _, _, _ | .iref _ _, _, _ | .non, _, _ => rfl
  | .own _ _, t, u | .ref _ _ _ _, t, u | .mp _, t, u => by
    simp only [upTo, decide_eq_true_eq] at t
    simp only [atLvl, decide_eq_false_iff_not] at u
    simp only [inLv, decide_eq_true_eq]; omega
  | .clo _ cs, t, u | .agg cs, t, u | .tup cs, t, u | .bx cs, t, u => by simp only [upTo] at t; simp only [atLvl] at u; simp only [inLv]; exact inLvs_at t u
theorem inLvs_at {n : Nat} : ∀ {xs : List PV}, upTos n xs = true → atLvls n xs = false → inLvs n xs = true
  | [], _, _ => rfl
  | x :: xs, t, u => by
    simp only [upTos, Bool.and_eq_true] at t
    simp only [atLvls, Bool.or_eq_false_iff] at u
    simp only [inLvs, Bool.and_eq_true]
    exact ⟨inLv_at t.1 u.1, inLvs_at t.2 u.2⟩
end
section
variable {c c' : Ctx} {S S' : Sto} {h h' : Hp} {m : Nat}
mutual
/-- What names visible objects alone means the same. -/
theorem R.vis (hF : ∀ b o, c.F b = some o → c'.F b = some o) (hS : ∀ id, id.1 < m → S' id = S id ∧ c'.L id = c.L id) : ∀ (x : PV) (vs : List Value) (fp : List Nat), inLv m x = true → (∀ b ∈ fp, h' b = h b) → R c S h x vs fp → R c' S' h' x vs fp
  | .undef, _, _, _, _, r => r
  | .sc _, _, _, _, _, r => r
  | .nils, _, _, _, _, r => r
  | .sl u k xs, vs, fp, _, hf, r => by
    have ht : tree (.sl u k xs) = true := by
      cases u
      · exact r.1
      · exact r.1
    exact R.data hF _ vs fp ht hf r
  | .own id n, vs, fp, t, _, r => by
    simp only [inLv, decide_eq_true_eq] at t
    obtain ⟨e1, e2⟩ := hS id t
    obtain ⟨h0, v, h1, h2, h3⟩ := r
    exact ⟨h0, v, h1, h2, by unfold OwnOK at h3 ⊢; rw [e1, e2]; exact h3⟩
  | .ref id n i j, vs, fp, t, _, r => by
    simp only [inLv, decide_eq_true_eq] at t
    obtain ⟨e1, e2⟩ := hS id t
    obtain ⟨h0, v, h1, h2, h3⟩ := r
    exact ⟨h0, v, h1, h2, by unfold RefOK at h3 ⊢; rw [e1, e2]; exact h3⟩
  | .iref cs j, vs, fp, _, _, r => by
    obtain ⟨h0, g, off, cur, e, fr, ws, h1, h2, h3, h4, h5, h6⟩ := r
    exact ⟨h0, g, off, cur, e, fr, ws, h1, hF _ _ h2, h3, h4, Rs.data hF cs ws [] h4 (fun b hb => by cases hb) h5, h6⟩
  | .mp id, vs, fp, t, _, r => by
    simp only [inLv, decide_eq_true_eq] at t
    obtain ⟨e1, e2⟩ := hS id t
    obtain ⟨h0, v, h1, h2, h3⟩ := r
    exact ⟨h0, v, h1, h2, by unfold MapOK at h3 ⊢; rw [e1, e2]; exact h3⟩
  | .clo f caps, vs, fp, t, _, r => by
    simp only [inLv] at t
    obtain ⟨h0, ws, h1, h2, h3⟩ := r
    exact ⟨h0, ws, h1, h2, Rs.vis hF hS caps ws [] t (fun b hb => by cases hb) h3⟩
  | .agg cs, vs, fp, t, hf, r => by
    simp only [inLv] at t
    exact ⟨r.1, Rs.vis hF hS cs vs fp t hf r.2⟩
  | .tup _, _, _, _, _, r => r.elim
  | .bx _, _, _, _, _, r => r.elim
  | .non, _, _, _, _, r => r.elim
theorem Rs.vis (hF : ∀ b o, c.F b = some o → c'.F b = some o) (hS : ∀ id, id.1 < m → S' id = S id ∧ c'.L id = c.L id) : ∀ (xs : List PV) (vs : List Value) (fp : List Nat), inLvs m xs = true → (∀ b ∈ fp, h' b = h b) → Rs c S h xs vs fp → Rs c' S' h' xs vs fp
  | [], _, _, _, _, r => r
  | x :: xs, vs, fp, t, hf, r => by
    simp only [inLvs, Bool.and_eq_true] at t
    obtain ⟨v1, v2, f1, f2, h1, h2, h3, h4⟩ := r
    exact ⟨v1, v2, f1, f2, h1, h2, R.vis hF hS x v1 f1 t.1 (fun b hb => hf b (by rw [h2]; exact List.mem_append_left _ hb)) h3,
      Rs.vis hF hS xs v2 f2 t.2 (fun b hb => hf b (by rw [h2]; exact List.mem_append_right _ hb)) h4⟩
end
theorem RV1.vis {x : PV} {v : Value} (hF : ∀ b o, c.F b = some o → c'.F b = some o) (hS : ∀ id, id.1 < m → S' id = S id ∧ c'.L id = c.L id) (t : inLv m x = true) (r : RV1 c S h x v) : RV1 c' S' h' x v := by
  cases x with
  | undef => trivial
  | non => exact r
  | agg cs => obtain ⟨vs, e, r⟩ := r; exact ⟨vs, e, R.vis hF hS _ vs [] t (fun b hb => by cases hb) r⟩
  | _ => exact R.vis (h := h) hF hS _ _ [] t (fun b hb => by cases hb) r
theorem RV1s.vis (hF : ∀ b o, c.F b = some o → c'.F b = some o) (hS : ∀ id, id.1 < m → S' id = S id ∧ c'.L id = c.L id) : ∀ {xs : List PV} {vs : List Value}, inLvs m xs = true → RV1s c S h xs vs → RV1s c' S' h' xs vs
  | [], _, _, r => r
  | x :: xs, _, t, ⟨v, ws, e, r1, r2⟩ => by
    simp only [inLvs, Bool.and_eq_true] at t
    exact ⟨v, ws, e, r1.vis hF hS t.1, RV1s.vis hF hS t.2 r2⟩
theorem RVal.vis {x : PV} {v : Value} (hF : ∀ b o, c.F b = some o → c'.F b = some o) (hS : ∀ id, id.1 < m → S' id = S id ∧ c'.L id = c.L id) (t : inLv m x = true) (r : RVal c S h x v) : RVal c' S' h' x v := by
  cases x with
  | tup ps => obtain ⟨vs, e, r⟩ := r; exact ⟨vs, e, RV1s.vis hF hS t r⟩
  | _ => simp only [RVal] at r ⊢; exact RV1.vis hF hS t r
theorem RVals.vis {w w' : World} (hF : ∀ b o, c.F b = some o → c'.F b = some o) (hS : ∀ id, id.1 < m → S' id = S id ∧ c'.L id = c.L id) : ∀ {xs : List PV} {vs : List Value}, inLvs m xs = true → RVals c S (hp w) xs vs → RVals c' S' (hp w') xs vs
  | [], _, _, r => r
  | x :: xs, _, t, ⟨v, ws, e, r1, r2⟩ => by
    simp only [inLvs, Bool.and_eq_true] at t
    exact ⟨v, ws, e, r1.vis hF hS t.1, RVals.vis hF hS t.2 r2⟩
theorem RO.vis {id : Id} {ob : OB} {fp : List Nat} (hF : ∀ b o, c.F b = some o → c'.F b = some o) (hS : ∀ i, i.1 < id.1 + 1 → S' i = S i ∧ c'.L i = c.L i) (hf : ∀ b ∈ fp, h' b = h b) (r : RO c S h id ob fp) : RO c' S' h' id ob fp := by
  have hL := (hS id (Nat.lt_succ_self _)).2
  cases ob with
  | box cs =>
    obtain ⟨cur, e, h1, h2, h3, h4, h5⟩ := r
    refine ⟨cur, e, ?_, h2, Rs.vis hF hS cs _ [] (inLvs_up h5) (fun b hb => by cases hb) h3, by rw [hL]; exact h4, h5⟩
    rw [hL, hf _ (by rw [h4]; exact List.mem_singleton.2 rfl)]; exact h1
  | row k xs =>
    obtain ⟨t, l, r⟩ := r
    refine ⟨t, l, ?_⟩
    rw [hL]
    rcases r with r | ⟨fq, h1, ⟨cur, e, ws, g1, g2, g3, g4, g5, g6⟩, h3⟩
    · exact .inl r
    · refine .inr ⟨fq, h1, ⟨cur, e, ws, ?_, g2, g3, g4, Rs.data hF xs ws fq t (fun b hb => hf b (by rw [h3]; exact List.mem_cons_of_mem _ hb)) g5, g6⟩, h3⟩
      rw [hf _ (by rw [h3]; exact List.mem_cons_self)]; exact g1
  | frz k xs =>
    obtain ⟨t, l, e, r⟩ := r
    refine ⟨t, l, e, ?_⟩
    rw [hL]
    rcases r with r | ⟨cur, et, ws, h1, h2, h3, h4⟩
    · exact .inl r
    · exact .inr ⟨cur, et, ws, h1, hF _ _ h2, Rs.data hF xs ws [] t (fun b hb => by cases hb) h3, h4⟩
  | dead => exact r
  | map es => exact r
end
open Classical in
noncomputable def hideC (c : Ctx) (S : Sto) (fp : Id → List Nat) (m : Nat) (h : Hp) : Ctx :=
  { F := c.F, L := c.L, X := fun b => if ∃ id ob, m ≤ id.1 ∧ S id = some ob ∧ b ∈ fp id then h b else c.X b }
def hideS (S : Sto) (m : Nat) : Sto := fun id => if id.1 < m then S id else none
def backC (c c' : Ctx) (m : Nat) : Ctx := { F := c'.F, L := fun id => if id.1 < m then c'.L id else c.L id, X := c.X }
def backS (S S' : Sto) (m : Nat) : Sto := fun id => if id.1 < m then S' id else S id
def backF (fp fp' : Id → List Nat) (m : Nat) : Id → List Nat := fun id => if id.1 < m then fp' id else fp id
section
variable {c c' : Ctx} {S S' : Sto} {w w' : World} {fp fp' : Id → List Nat} {m : Nat}
theorem hideS_some {id : Id} {ob : OB} (h : hideS S m id = some ob) : id.1 < m ∧ S id = some ob := by
  unfold hideS at h
  split at h
  · exact ⟨by assumption, h⟩
  · cases h
theorem hide_ok (ok : StOK c S (hp w) fp) : StOK (hideC c S fp m (hp w)) (hideS S m) (hp w) fp := by
  have hx : ∀ {id ob b}, hideS S m id = some ob → b ∈ fp id → ¬ ∃ id ob, m ≤ id.1 ∧ S id = some ob ∧ b ∈ fp id := by
    rintro id ob b hs hb ⟨id', ob', hm, hs', hb'⟩
    obtain ⟨h1, h2⟩ := hideS_some hs
    exact ok.dj id id' ob ob' h2 hs' (fun e => by subst e; omega) b hb hb'
  constructor
  · intro id ob hs
    obtain ⟨h1, h2⟩ := hideS_some hs
    refine RO.vis (c := c) (S := S) (fun _ _ h => h) (fun i hi => ⟨?_, rfl⟩) (fun _ _ => rfl) (ok.ob id ob h2)
    unfold hideS
    rw [if_pos (by omega)]
  · intro id ob hs; exact ok.nd id ob (hideS_some hs).2
  · intro id id' ob ob' hs hs'; exact ok.dj id id' ob ob' (hideS_some hs).2 (hideS_some hs').2
  · intro id ob hs b hb
    have := ok.nF id ob (hideS_some hs).2 b hb
    refine ⟨this.1, ?_⟩
    simp only [hideC]
    rw [if_neg (hx hs hb)]; exact this.2
  · rintro b o (h | h)
    · exact ok.okF b o (.inl h)
    · simp only [hideC] at h
      split at h
      · exact h
      · exact ok.okF b o (.inr h)
  · intro b o h
    simp only [hideC] at h ⊢
    split
    · rename_i hh
      obtain ⟨id, ob, _, hs, hb⟩ := hh
      exact (ok.nF id ob hs b hb).no (.inl h)
    · exact ok.dis b o h
theorem StepOB.congr {c1 c2 d1 d2 : Ctx} {id : Id} {a b : OB} (h1 : d1.L id = c1.L id) (h2 : d2.L id = c2.L id) (h : StepOB c1 c2 id a b) : StepOB d1 d2 id a b := by
  cases a <;> cases b <;> simp only [StepOB] at h ⊢ <;> first | trivial | exact h.elim | (rw [h1, h2]; exact h)
theorem back_ok (ok : StOK c S (hp w) fp) (ok' : StOK c' S' (hp w') fp') (ha : Adv (hideC c S fp m (hp w)) c' (hideS S m) S') :
    StOK (backC c c' m) (backS S S' m) (hp w') (backF fp fp' m) ∧ Adv c (backC c c' m) S (backS S S' m) := by
  have hadv : Adv c (backC c c' m) S (backS S S' m) := by
    refine ⟨ha.F, rfl, fun id ob hs => ?_⟩
    by_cases hm : id.1 < m
    · obtain ⟨ob', h1, h2⟩ := ha.st id ob (by simp [hideS, hm, hs])
      exact ⟨ob', by simp [backS, hm, h1], h2.congr rfl (by simp [backC, hm])⟩
    · exact ⟨ob, by simp [backS, hm, hs], StepOB.rfl' (by simp [backC, hm])⟩
  -- hidden blocks
  have hX : c'.X = (hideC c S fp m (hp w)).X := ha.X
  have hid : ∀ {id ob b}, ¬ id.1 < m → S id = some ob → b ∈ fp id → ∃ o, hp w b = some o ∧ c'.X b = some o := by
    intro id ob b hm hs hb
    obtain ⟨o, ho⟩ : ∃ o, hp w b = some o := by
      have := ok.lt hs hb
      exact ⟨_, Array.getElem?_eq_getElem this⟩
    refine ⟨o, ho, ?_⟩
    rw [hX]
    simp only [hideC]
    rw [if_pos ⟨id, ob, by omega, hs, hb⟩]; exact ho
  have hsame : ∀ {id ob b}, ¬ id.1 < m → S id = some ob → b ∈ fp id → hp w' b = hp w b := by
    intro id ob b hm hs hb
    obtain ⟨o, h1, h2⟩ := hid hm hs hb
    rw [h1]; exact ok'.okF b o (.inr h2)
  have hcX : ∀ b o, c.X b = some o → c'.X b = some o := by
    intro b o h
    rw [hX]
    simp only [hideC]
    rw [if_neg]
    · exact h
    · rintro ⟨id, ob, _, hs, hb⟩
      exact (ok.nF id ob hs b hb).no (.inr h)
  refine ⟨⟨?_, ?_, ?_, ?_, ?_, ?_⟩, hadv⟩
  · intro id ob hs
    by_cases hm : id.1 < m
    · simp only [backS, hm, if_true] at hs
      simp only [backF, hm, if_true]
      refine RO.vis (c := c') (S := S') (fun _ _ h => h) (fun i hi => ?_) (fun _ _ => rfl) (ok'.ob id ob hs)
      have : i.1 < m := by omega
      simp [backS, backC, this]
    · simp only [backS, hm, if_false] at hs
      simp only [backF, hm, if_false]
      exact (ok.ob id ob hs).adv hadv (by simp [backC, hm]) (fun b hb => hsame hm hs hb)
  · intro id ob hs
    by_cases hm : id.1 < m
    · simp only [backS, hm, if_true] at hs; simp only [backF, hm, if_true]; exact ok'.nd id ob hs
    · simp only [backS, hm, if_false] at hs; simp only [backF, hm, if_false]; exact ok.nd id ob hs
  · intro id id' ob ob' hs hs' hne b hb hb'
    by_cases hm : id.1 < m <;> by_cases hm' : id'.1 < m <;> simp only [backS, backF, hm, hm', if_true, if_false] at hs hs' hb hb'
    · exact ok'.dj id id' ob ob' hs hs' hne b hb hb'
    · obtain ⟨o, _, h2⟩ := hid hm' hs' hb'
      exact (ok'.nF id ob hs b hb).no (.inr h2)
    · obtain ⟨o, _, h2⟩ := hid hm hs hb
      exact (ok'.nF id' ob' hs' b hb').no (.inr h2)
    · exact ok.dj id id' ob ob' hs hs' hne b hb hb'
  · intro id ob hs b hb
    by_cases hm : id.1 < m <;> simp only [backS, backF, hm, if_true, if_false] at hs hb
    · have := ok'.nF id ob hs b hb
      refine ⟨this.1, ?_⟩
      simp only [backC]
      cases h : c.X b with
      | none => rfl
      | some o => exact this.no (.inr (hcX b o h))
    · refine ⟨?_, (ok.nF id ob hs b hb).2⟩
      obtain ⟨o, _, h2⟩ := hid hm hs hb
      simp only [backC]
      cases h : c'.F b with
      | none => rfl
      | some o' => have := ok'.dis b o' h; rw [h2] at this; cases this
  · rintro b o (h | h)
    · exact ok'.okF b o (.inl h)
    · exact ok'.okF b o (.inr (hcX b o h))
  · intro b o h
    simp only [backC] at h ⊢
    cases h2 : c.X b with
    | none => rfl
    | some o' => have := ok'.dis b o h; rw [hcX b o' h2] at this; cases this
end
end Go.Am
end
section
/- Results: how they leave a frame, and how they come to the caller. -/
set_option linter.unusedSimpArgs false
set_option linter.unusedVariables false
namespace Go.Am
open Go.RowKit
/-- One result value. -/
def RX (c : Ctx) (S : Sto) (h : Hp) : PV → Value → List Nat → Prop
  | .bx cs, v, fp => ∃ g cur e, v = .pointer (some ⟨g, 0, none⟩) ∧ h g = some (.cells cur e (0, 0)) ∧ cs.all cellP = true ∧ plains cs = true ∧ Rs c S h cs cur.toList [] ∧ fp = [g]
  | .agg cs, v, fp => ∃ vs, v = .agg vs.toArray ∧ R c S h (.agg cs) vs fp
  | .undef, _, _ => False
  | x, v, fp => R c S h x [v] fp
def RXs (c : Ctx) (S : Sto) (h : Hp) : List PV → List Value → List Nat → Prop
  | [], vs, fp => vs = [] ∧ fp = []
  | x :: xs, vs, fp => ∃ v ws f1 f2, vs = v :: ws ∧ fp = f1 ++ f2 ∧ RX c S h x v f1 ∧ RXs c S h xs ws f2
def Ret (c : Ctx) (S : Sto) (h : Hp) : PV → Value → List Nat → Prop
  | .tup ps, v, fp => ∃ vs, v = .tuple vs.toArray ∧ RXs c S h ps vs fp
  | x, v, fp => RX c S h x v fp
section
variable {c c' : Ctx} {S S' : Sto} {w w' : World} {fp fp' : Id → List Nat}
/-! #### leaving -/
theorem nodupI_cons {a : Id} {r : List Id} (h : nodupI (a :: r) = true) : a ∉ r ∧ nodupI r = true := by
  simp only [nodupI, Bool.and_eq_true, List.all_eq_true] at h
  refine ⟨fun ha => ?_, h.2⟩
  have := h.1 a ha
  simp at this
theorem free_ids (ok : StOK c S (hp w) fp) {n : Nat} : ∀ {ids : List Id}, nodupI ids = true → (∀ id ∈ ids, id.1 = n ∧ ∃ ob, S id = some ob) → Free c (hideS S n) fp (ids.flatMap fp)
  | [], _, _ => ⟨List.nodup_nil, fun b hb => by cases hb⟩
  | a :: r, hn, hi => by
    obtain ⟨h1, h2⟩ := nodupI_cons hn
    obtain ⟨ha, ob, hs⟩ := hi a List.mem_cons_self
    have ih := free_ids ok h2 (fun id hid => hi id (List.mem_cons_of_mem _ hid))
    refine ⟨?_, fun b hb => ?_⟩
    · simp only [List.flatMap_cons]
      refine List.nodup_append.2 ⟨ok.nd a ob hs, ih.1, fun x hx y hy e => ?_⟩
      subst e
      obtain ⟨id, hid, hb⟩ := List.mem_flatMap.1 hy
      obtain ⟨_, ob', hs'⟩ := hi id (List.mem_cons_of_mem _ hid)
      exact ok.dj a id ob ob' hs hs' (fun e => h1 (e ▸ hid)) x hx hb
    · simp only [List.flatMap_cons] at hb
      rcases List.mem_append.1 hb with hb | hb
      · refine ⟨ok.nF a ob hs b hb, fun id ob' hs' hb' => ?_⟩
        obtain ⟨h3, h4⟩ := hideS_some hs'
        exact ok.dj a id ob ob' hs h4 (fun e => by subst e; omega) b hb hb'
      · exact ih.2 b hb
mutual
theorem inLv_plain {m : Nat} : ∀ {x : PV}, plain x = true → inLv m x = true
  | .sc _, _ | .nils, _ | .sl _ _ _, _ => rfl
  | .undef, h | .iref _ _, h | .non, h | .own _ _, h | .ref _ _ _ _, h | .mp _, h | .clo _ _, h | .tup _, h | .bx _, h => by simp [plain] at h
  | .agg ds, h => by simp only [plain] at h; simp only [inLv]; exact inLvs_plains h
theorem inLvs_plains {m : Nat} : ∀ {xs : List PV}, plains xs = true → inLvs m xs = true
  | [], _ => rfl
  | x :: xs, h => by
    simp only [plains, Bool.and_eq_true] at h
    simp only [inLvs, Bool.and_eq_true]
    exact ⟨inLv_plain h.1, inLvs_plains h.2⟩
end
mutual
theorem upTo_plain {m : Nat} : ∀ {x : PV}, plain x = true → upTo m x = true
  | .sc _, _ | .nils, _ | .sl _ _ _, _ => rfl
  | .undef, h | .iref _ _, h | .non, h | .own _ _, h | .ref _ _ _ _, h | .mp _, h | .clo _ _, h | .tup _, h | .bx _, h => by simp [plain] at h
  | .agg ds, h => by simp only [plain] at h; simp only [upTo]; exact upTos_plains h
theorem upTos_plains {m : Nat} : ∀ {xs : List PV}, plains xs = true → upTos m xs = true
  | [], _ => rfl
  | x :: xs, h => by
    simp only [plains, Bool.and_eq_true] at h
    simp only [upTos, Bool.and_eq_true]
    exact ⟨upTo_plain h.1, upTos_plains h.2⟩
end
theorem expo1_ok {n : Nat} {x y : PV} {ids : List Id} {v : Value} (ok : StOK c S (hp w) fp) (hlv : ∀ i ob, S i = some ob → i.1 ≤ n) (r : R c S (hp w) x [v] []) (e : expo1 n S x = some (y, ids)) :
    RX c (hideS S n) (hp w) y v (ids.flatMap fp) ∧ (∀ id ∈ ids, id.1 = n ∧ ∃ ob, S id = some ob) := by
  have hS : ∀ i : Id, i.1 < n → hideS S n i = S i ∧ c.L i = c.L i := fun i hi => ⟨by simp [hideS, hi], rfl⟩
  have same : ∀ {z : PV}, inLv n z = true → R c S (hp w) z [v] [] → R c (hideS S n) (hp w) z [v] [] := fun hz r => R.vis (fun _ _ h => h) hS _ _ _ hz (fun _ _ => rfl) r
  unfold expo1 at e
  split at e
  · simp only [Option.some.injEq, Prod.mk.injEq] at e
    obtain ⟨rfl, rfl⟩ := e
    exact ⟨same rfl r, fun id hid => by cases hid⟩
  · simp only [Option.some.injEq, Prod.mk.injEq] at e
    obtain ⟨rfl, rfl⟩ := e
    exact ⟨same rfl r, fun id hid => by cases hid⟩
  · simp only [Option.some.injEq, Prod.mk.injEq] at e
    obtain ⟨rfl, rfl⟩ := e
    exact ⟨same rfl r, fun id hid => by cases hid⟩
  · rename_i id m
    split at e
    · rename_i hn
      have hv := own_of r
      split at e
      · rename_i k xs hs
        split at e
        · rename_i hm
          simp only [Option.some.injEq, Prod.mk.injEq] at e
          obtain ⟨rfl, rfl⟩ := e
          subst hm
          refine ⟨?_, fun i hi => by simp only [List.mem_singleton] at hi; subst hi; exact ⟨hn, _, hs⟩⟩
          simp only [List.flatMap_cons, List.flatMap_nil, List.append_nil]
          exact row_uniq ok hs hv (fun _ _ h => h)
        · cases e
      · rename_i k xs hs
        split at e
        · rename_i hm
          simp only [Option.some.injEq, Prod.mk.injEq] at e
          obtain ⟨rfl, rfl⟩ := e
          subst hm
          exact ⟨same rfl (row_shr ok hs hv), fun i hi => by cases hi⟩
        · cases e
      · cases e
    · rename_i hn
      simp only [Option.some.injEq, Prod.mk.injEq] at e
      obtain ⟨rfl, rfl⟩ := e
      have := R.up hlv _ _ _ r
      simp only [upTo, decide_eq_true_eq] at this
      exact ⟨same (by simp only [inLv, decide_eq_true_eq]; omega) r, fun i hi => by cases hi⟩
  · rename_i id
    split at e
    · cases e
    · rename_i hn
      simp only [Option.some.injEq, Prod.mk.injEq] at e
      obtain ⟨rfl, rfl⟩ := e
      have := R.up hlv _ _ _ r
      simp only [upTo, decide_eq_true_eq] at this
      exact ⟨same (by simp only [inLv, decide_eq_true_eq]; omega) r, fun i hi => by cases hi⟩
  · rename_i id m i j
    split at e
    · rename_i hn
      split at e
      · rename_i cs hs
        split at e
        · rename_i hc
          obtain ⟨rfl, rfl, rfl, hp⟩ := hc
          simp only [Option.some.injEq, Prod.mk.injEq] at e
          obtain ⟨rfl, rfl⟩ := e
          obtain ⟨_, u, hu, _, hv⟩ := r
          obtain rfl : v = u := by simpa using hu
          simp only [RefOK, hs] at hv
          obtain ⟨cur, et, h1, h2, h3, h4, _⟩ := ok.ob id _ hs
          refine ⟨⟨_, cur, et, hv trivial trivial, h1, h2, hp, Rs.vis (fun _ _ h => h) hS _ _ _ (inLvs_plains hp) (fun _ _ => rfl) h3, by simp [h4]⟩, fun i hi => by simp only [List.mem_singleton] at hi; subst hi; exact ⟨hn, _, hs⟩⟩
        · cases e
      · cases e
    · rename_i hn
      simp only [Option.some.injEq, Prod.mk.injEq] at e
      obtain ⟨rfl, rfl⟩ := e
      have := R.up hlv _ _ _ r
      simp only [upTo, decide_eq_true_eq] at this
      exact ⟨same (by simp only [inLv, decide_eq_true_eq]; omega) r, fun i hi => by cases hi⟩
  · cases e
theorem expoC_ok {n : Nat} {x y : PV} {ids : List Id} {v : Value} (ok : StOK c S (hp w) fp) (hlv : ∀ i ob, S i = some ob → i.1 ≤ n) (r : R c S (hp w) x [v] []) (e : expoC n S x = some (y, ids)) :
    R c (hideS S n) (hp w) y [v] (ids.flatMap fp) ∧ cellP y = true ∧ (∀ id ∈ ids, id.1 = n ∧ ∃ ob, S id = some ob) := by
  unfold expoC at e
  split at e
  · cases e
  · rename_i hb
    obtain ⟨h1, h2⟩ := expo1_ok ok hlv r e
    have e0 := e
    unfold expo1 at e
    split at e <;> (repeat' split at e) <;> first
      | (cases e; done)
      | (simp only [Option.some.injEq, Prod.mk.injEq] at e
         obtain ⟨rfl, rfl⟩ := e
         first
           | exact ⟨h1, rfl, h2⟩
           | exact (hb _ _ e0).elim)
theorem expos_ok {n : Nat} (ok : StOK c S (hp w) fp) (hlv : ∀ i ob, S i = some ob → i.1 ≤ n) : ∀ {xs ys : List PV} {ids : List Id} {vs : List Value}, xs.all cellP = true → Rs c S (hp w) xs vs [] → expos n S xs = some (ys, ids) →
    Rs c (hideS S n) (hp w) ys vs (ids.flatMap fp) ∧ ys.all cellP = true ∧ (∀ id ∈ ids, id.1 = n ∧ ∃ ob, S id = some ob)
  | [], ys, ids, vs, _, r, e => by
    simp only [expos, Option.some.injEq, Prod.mk.injEq] at e
    obtain ⟨rfl, rfl⟩ := e
    exact ⟨r, rfl, fun id hid => by cases hid⟩
  | x :: xs, ys, ids, vs, hc, r, e => by
    simp only [expos] at e
    split at e
    · rename_i y i1 ys' i2 h1 h2
      simp only [Option.some.injEq, Prod.mk.injEq] at e
      obtain ⟨rfl, rfl⟩ := e
      obtain ⟨v1, v2, f1, f2, rfl, hf, r1, r2⟩ := r
      simp only [List.all_cons, Bool.and_eq_true] at hc
      have hf' := hf.symm
      simp only [List.append_eq_nil_iff] at hf'
      obtain ⟨rfl, rfl⟩ := hf'
      obtain ⟨v, rfl, _⟩ := R_one hc.1 r1
      obtain ⟨a1, a2, a3⟩ := expoC_ok ok hlv r1 h1
      obtain ⟨b1, b2, b3⟩ := expos_ok ok hlv hc.2 r2 h2
      refine ⟨⟨[v], v2, i1.flatMap fp, i2.flatMap fp, rfl, by simp, a1, b1⟩, by simp [a2, b2], fun id hid => ?_⟩
      rcases List.mem_append.1 hid with h | h
      · exact a3 id h
      · exact b3 id h
    · cases e
theorem expoE_ok {n : Nat} {x y : PV} {ids : List Id} {v : Value} (ok : StOK c S (hp w) fp) (hlv : ∀ i ob, S i = some ob → i.1 ≤ n) (r : RV1 c S (hp w) x v) (e : expoE n S x = some (y, ids)) :
    RX c (hideS S n) (hp w) y v (ids.flatMap fp) ∧ (∀ id ∈ ids, id.1 = n ∧ ∃ ob, S id = some ob) := by
  cases x with
  | agg cs =>
    simp only [expoE] at e
    split at e
    · rename_i ys i1 h1
      simp only [Option.some.injEq, Prod.mk.injEq] at e
      obtain ⟨rfl, rfl⟩ := e
      obtain ⟨vs, rfl, hc, r⟩ := r
      obtain ⟨a1, a2, a3⟩ := expos_ok ok hlv hc r h1
      exact ⟨⟨vs, rfl, a2, a1⟩, a3⟩
    · cases e
  | undef => simp [expoE, expo1] at e
  | tup _ => simp [expoE, expo1] at e
  | bx _ => simp [expoE, expo1] at e
  | non => simp [expoE, expo1] at e
  | _ => exact expo1_ok ok hlv r (by simpa only [expoE] using e)
theorem expoEs_ok {n : Nat} (ok : StOK c S (hp w) fp) (hlv : ∀ i ob, S i = some ob → i.1 ≤ n) : ∀ {xs ys : List PV} {ids : List Id} {vs : List Value}, RV1s c S (hp w) xs vs → expoEs n S xs = some (ys, ids) →
    RXs c (hideS S n) (hp w) ys vs (ids.flatMap fp) ∧ (∀ id ∈ ids, id.1 = n ∧ ∃ ob, S id = some ob)
  | [], ys, ids, vs, r, e => by
    simp only [expoEs, Option.some.injEq, Prod.mk.injEq] at e
    obtain ⟨rfl, rfl⟩ := e
    exact ⟨⟨r, rfl⟩, fun id hid => by cases hid⟩
  | x :: xs, ys, ids, vs, r, e => by
    simp only [expoEs] at e
    split at e
    · rename_i y i1 ys' i2 h1 h2
      simp only [Option.some.injEq, Prod.mk.injEq] at e
      obtain ⟨rfl, rfl⟩ := e
      obtain ⟨v, v2, rfl, r1, r2⟩ := r
      obtain ⟨a1, a3⟩ := expoE_ok ok hlv r1 h1
      obtain ⟨b1, b3⟩ := expoEs_ok ok hlv r2 h2
      refine ⟨⟨v, v2, i1.flatMap fp, i2.flatMap fp, rfl, by simp, a1, b1⟩, fun id hid => ?_⟩
      rcases List.mem_append.1 hid with h | h
      · exact a3 id h
      · exact b3 id h
    · cases e
/-- A frame's result. -/
def single' : List Value → Value | [v] => v | vs => .tuple vs.toArray
theorem finish_ok {n : Nat} {xs : List PV} {y : PV} {ids : List Id} {vs : List Value} (ok : StOK c S (hp w) fp) (hlv : ∀ i ob, S i = some ob → i.1 ≤ n) (r : RV1s c S (hp w) xs vs)
    (hnt : ∀ x ∈ xs, ∀ ps, x ≠ .tup ps) (e : expo n S (single xs) = some (y, ids)) (hnd : nodupI ids = true) :
    ∃ f, Ret c (hideS S n) (hp w) y (single' vs) f ∧ Free c (hideS S n) fp f := by
  have main : ∀ {zs : List PV}, xs = zs → (∃ x, zs = [x]) ∨ (∀ x, zs ≠ [x]) := fun {zs} _ => by
    by_cases h : ∃ x, zs = [x]
    · exact .inl h
    · exact .inr fun x hx => h ⟨x, hx⟩
  rcases main rfl with ⟨x, rfl⟩ | hx
  · obtain ⟨v, ws, rfl, r1, r2⟩ := r
    simp only [RV1s] at r2
    subst r2
    simp only [single] at e
    have e' : expoE n S x = some (y, ids) := by
      cases x with
      | tup ps => exact absurd rfl (hnt _ List.mem_cons_self ps)
      | _ => simpa only [expo] using e
    obtain ⟨h1, h2⟩ := expoE_ok ok hlv r1 e'
    refine ⟨ids.flatMap fp, ?_, free_ids ok hnd h2⟩
    simp only [single']
    cases y with
    | tup ps => simp only [RX] at h1; exact h1.elim
    | _ => exact h1
  · have hs : single xs = .tup xs := by
      cases xs with
      | nil => rfl
      | cons a l => cases l with | nil => exact absurd rfl (hx a) | cons _ _ => rfl
    rw [hs] at e
    simp only [expo] at e
    split at e
    · rename_i ys i1 h1
      simp only [Option.some.injEq, Prod.mk.injEq] at e
      obtain ⟨rfl, rfl⟩ := e
      obtain ⟨a1, a2⟩ := expoEs_ok ok hlv r h1
      have hs' : single' vs = .tuple vs.toArray := by
        cases xs with
        | nil => simp only [RV1s] at r; subst r; rfl
        | cons a l =>
          obtain ⟨v, ws, rfl, _, r2⟩ := r
          cases l with
          | nil => exact absurd rfl (hx a)
          | cons b l => obtain ⟨u, us, rfl, _, _⟩ := r2; rfl
      exact ⟨_, by rw [hs']; exact ⟨vs, rfl, a1⟩, free_ids ok hnd a2⟩
    · cases e
end
end Go.Am
end
section
/- Results as they come to the caller. -/
set_option linter.unusedSimpArgs false
set_option linter.unusedVariables false
namespace Go.Am
open Go.RowKit
structure Added (c : Ctx) (S : Sto) (w : World) (fp : Id → List Nat) (f : List Nat) (c' : Ctx) (S' : Sto) (fp' : Id → List Nat) : Prop where
  ok : StOK c' S' (hp w) fp'
  adv : Adv c c' S S'
  F : c'.F = c.F
  X : c'.X = c.X
  own : ∀ id ob b, S' id = some ob → b ∈ fp' id → (∃ ob', S id = some ob' ∧ b ∈ fp id) ∨ b ∈ f
section
variable {c c' : Ctx} {S S' : Sto} {w w' : World} {fp fp' : Id → List Nat} {f f' : List Nat}
theorem Added.nil (ok : StOK c S (hp w) fp) : Added c S w fp [] c S fp := ⟨ok, Adv.refl _ _, rfl, rfl, fun id ob b hs hb => .inl ⟨ob, hs, hb⟩⟩
theorem Added.trans {c1 c2 S1 S2 fp1 fp2} (h1 : Added c S w fp f c1 S1 fp1) (h2 : Added c1 S1 w fp1 f' c2 S2 fp2) : Added c S w fp (f ++ f') c2 S2 fp2 := by
  refine ⟨h2.ok, h1.adv.trans h2.adv, h2.F.trans h1.F, h2.X.trans h1.X, fun id ob b hs hb => ?_⟩
  rcases h2.own id ob b hs hb with ⟨ob', hs', hb'⟩ | h
  · exact (h1.own id ob' b hs' hb').imp (fun h => h) (List.mem_append_left _)
  · exact .inr (List.mem_append_right _ h)
theorem Added.free {g : List Nat} (h : Added c S w fp f c' S' fp') (hf : Free c S fp (f ++ g)) : Free c' S' fp' g := by
  refine ⟨(List.nodup_append.1 hf.1).2.1, fun b hb => ?_⟩
  obtain ⟨h1, h2⟩ := hf.2 b (List.mem_append_right _ hb)
  refine ⟨⟨by rw [h.F]; exact h1.1, by rw [h.X]; exact h1.2⟩, fun id ob hs hb' => ?_⟩
  rcases h.own id ob b hs hb' with ⟨ob', hs', hb''⟩ | h'
  · exact h2 id ob' hs' hb''
  · exact (List.nodup_append.1 hf.1).2.2 b h' b hb rfl
theorem Free.left {g : List Nat} (hf : Free c S fp (f ++ g)) : Free c S fp f := ⟨(List.nodup_append.1 hf.1).1, fun b hb => hf.2 b (List.mem_append_left _ hb)⟩
/-- A new object over blocks that nobody holds. -/
theorem added {id : Id} {ob : OB} {l : Loc} (ok : StOK c S (hp w) fp) (hn : S id = none) (hro : RO (setL c id l) (upd S id ob) (hp w) id ob f) (hf : Free c S fp f) : Added c S w fp f (setL c id l) (upd S id ob) (setF fp id f) := by
  refine ⟨ok.step (Adv.new hn) (fun x => x = id) ?_ ?_ ok.okF ok.dis, Adv.new hn, rfl, rfl, ?_⟩
  · intro x ob' hx hne
    have hx' : S x = some ob' := by simpa [upd, hne] using hx
    exact ⟨hx', by simp [setL, hne], by simp [setF, hne], fun b hb => ⟨rfl, ok.nF x ob' hx' b hb⟩⟩
  · rintro x ob' hx rfl
    have he : ob' = ob := by simpa [upd, eq_comm] using hx
    subst he
    refine ⟨by simpa [setF] using hro, by simpa [setF] using hf.1, fun b hb => (hf.2 b (by simpa [setF] using hb)).1, fun id' ob'' hne hs b hb => ?_⟩
    simp only [setF, if_true] at hb
    simp only [setF, hne, if_false]
    exact (hf.2 b hb).2 id' ob'' (by simpa [upd, hne] using hs)
  · intro x ob' b hx hb
    by_cases hxi : x = id
    · subst hxi
      exact .inr (by simpa [setF] using hb)
    · exact .inl ⟨ob', by simpa [upd, hxi] using hx, by simpa [setF, hxi] using hb⟩
theorem upds_fresh : ∀ {ws : List (Id × OB)} {S : Sto} {id : Id}, (∀ x ∈ ws, x.1 ≠ id) → upds S ws id = S id
  | [], _, _, _ => rfl
  | (i, o) :: r, S, id, h => by
    simp only [upds]
    rw [upds_fresh (fun x hx => h x (List.mem_cons_of_mem _ hx))]
    have := h _ List.mem_cons_self
    simp only at this
    simp [upd, Ne.symm this]
/-- One cell of a result. -/
theorem impo1_ok {n d q : Nat} {x : PV} {v : Value} (hx : cellP x = true ∨ ∃ cs, x = .bx cs) (ok : StOK c S (hp w) fp) (r : RX c S (hp w) x v f) (hf : Free c S fp f) (hn : ∀ y ∈ (impo1 n d x q).2.2, S y.1 = none) :
    ∃ c' fp', Added c S w fp f c' (upds S (impo1 n d x q).2.2) fp' ∧ R c' (upds S (impo1 n d x q).2.2) (hp w) (impo1 n d x q).1 [v] [] ∧ cellP (impo1 n d x q).1 = true := by
  have same : impo1 n d x q = (x, q, []) → R c S (hp w) x [v] f → cellP x = true → f = [] → ∃ c' fp', Added c S w fp f c' (upds S (impo1 n d x q).2.2) fp' ∧ R c' (upds S (impo1 n d x q).2.2) (hp w) (impo1 n d x q).1 [v] [] ∧ cellP (impo1 n d x q).1 = true := by
    intro e r hc h0
    subst h0
    rw [e]
    exact ⟨c, fp, Added.nil ok, r, hc⟩
  cases x with
  | bx cs =>
    obtain ⟨g, cur, e, rfl, h1, h2, h3, h4, rfl⟩ := r
    have hn' : S (n, d + 1000 * q) = none := hn _ List.mem_cons_self
    have ha := added (id := (n, d + 1000 * q)) (ob := .box cs) (l := ⟨g, none, 0⟩) ok hn' ?_ hf
    · refine ⟨_, _, ha, ?_, rfl⟩
      exact ⟨rfl, _, rfl, rfl, by simp [RefOK, impo1, upds, upd, setL]⟩
    · refine ⟨cur, e, by simpa [setL] using h1, h2, Rs.adv (Adv.new hn') cs _ [] (fun b hb => by cases hb) h4, by simp [setL], ?_⟩
      exact upTos_plains h3
  | sl u k xs =>
    cases u with
    | false => exact same rfl r rfl r.2.2.1
    | true =>
      obtain ⟨t, hk, A, cp, hv, r⟩ := r
      obtain rfl : v = .slice A xs.length cp := by simpa using hv
      have hn' : S (n, d + 1000 * q) = none := hn _ List.mem_cons_self
      rcases r with ⟨rfl, rfl, rfl⟩ | ⟨g, cur, e, ws, fq, rfl, h2, h3, h4, h5, h6, h7, rfl⟩
      · have ha := added (id := (n, d + 1000 * q)) (ob := .row k []) (l := ⟨0, A, 0⟩) ok hn' ⟨rfl, hk, .inl ⟨rfl, by simp [setL], rfl⟩⟩ hf
        exact ⟨_, _, ha, ⟨rfl, _, rfl, rfl, by simp [OwnOK, impo1, upds, upd, setL]⟩, rfl⟩
      · have ha := added (id := (n, d + 1000 * q)) (ob := .row k xs) (l := ⟨g, some ⟨g, 0, none⟩, cp⟩) ok hn' ⟨t, hk, .inr ⟨fq, by simp [setL], ⟨cur, e, ws, by simpa [setL] using h2, by simpa [setL] using h3, by simpa [setL] using h4, by simpa [setL] using h5, Rs.adv (Adv.new hn') xs ws fq (fun _ _ => rfl) h6, h7⟩, by simp [setL]⟩⟩ hf
        exact ⟨_, _, ha, ⟨rfl, _, rfl, rfl, by simp [OwnOK, impo1, upds, upd, setL]⟩, rfl⟩
  | undef => exact r.elim
  | sc _ => exact same rfl r rfl r.1
  | nils => exact same rfl r rfl r.1
  | own _ _ => exact same rfl r rfl r.1
  | ref _ _ _ _ => exact same rfl r rfl r.1
  | iref _ _ => exact same rfl r rfl r.1
  | mp _ => exact same rfl r rfl r.1
  | clo _ _ => exact same rfl r rfl r.1
  | agg _ => simp [cellP] at hx
  | tup _ => simp [cellP] at hx
  | non => simp [cellP] at hx
theorem R_mono {x : PV} {vs : List Value} (ha : Adv c c' S S') (r : R c S (hp w) x vs f) : R c' S' (hp w) x vs f := R.adv ha _ _ _ (fun _ _ => rfl) r
theorem nodupId_ne {a b : List (Id × OB)} (h : nodupId (a ++ b) = true) : ∀ y ∈ b, ∀ x ∈ a, x.1 ≠ y.1 := fun y hy x hx e => (nodupId_append h).2.2 x hx y hy e.symm
theorem RX_cell {x : PV} {v : Value} (hc : cellP x = true) (hu : x ≠ .undef) (r : R c S (hp w) x [v] f) : RX c S (hp w) x v f := by
  cases x <;> first | (simp [cellP] at hc; done) | exact absurd rfl hu | exact r
theorem impo1_undef {n d q : Nat} (f0 : List Nat) : (impo1 n d .undef q) = (.undef, q, []) := rfl
theorem impos_ok {n d : Nat} : ∀ {xs : List PV} {q : Nat} {vs : List Value} {c : Ctx} {S : Sto} {fp : Id → List Nat} {f : List Nat}, xs.all cellP = true → StOK c S (hp w) fp → Rs c S (hp w) xs vs f → Free c S fp f →
    (∀ y ∈ (impos n d xs q).2.2, S y.1 = none) → nodupId (impos n d xs q).2.2 = true →
    ∃ c' fp', Added c S w fp f c' (upds S (impos n d xs q).2.2) fp' ∧ Rs c' (upds S (impos n d xs q).2.2) (hp w) (impos n d xs q).1 vs [] ∧ (impos n d xs q).1.all cellP = true
  | [], q, vs, c, S, fp, f, _, ok, r, _, _, _ => by
    obtain ⟨rfl, rfl⟩ := r
    exact ⟨c, fp, Added.nil ok, ⟨rfl, rfl⟩, rfl⟩
  | x :: xs, q, vs, c, S, fp, f, hc, ok, r, hf, hn, hd => by
    obtain ⟨v1, v2, f1, f2, rfl, rfl, r1, r2⟩ := r
    simp only [List.all_cons, Bool.and_eq_true] at hc
    obtain ⟨v, rfl, ho⟩ := R_one hc.1 r1
    simp only [impos] at hn hd ⊢
    have key : ∃ c1 fp1, Added c S w fp f1 c1 (upds S (impo1 n d x q).2.2) fp1 ∧ R c1 (upds S (impo1 n d x q).2.2) (hp w) (impo1 n d x q).1 [v] [] ∧ cellP (impo1 n d x q).1 = true := by
      by_cases hu : x = .undef
      · subst hu
        obtain rfl := r1.1
        exact ⟨c, fp, Added.nil ok, r1, rfl⟩
      · exact impo1_ok (.inl hc.1) ok (RX_cell hc.1 hu r1) hf.left (fun y hy => hn y (List.mem_append_left _ hy))
    obtain ⟨c1, fp1, ha, hr, hcell⟩ := key
    obtain ⟨c2, fp2, hb, hrs, hall⟩ := impos_ok (q := (impo1 n d x q).2.1) hc.2 ha.ok (Rs.adv ha.adv _ _ _ (fun _ _ => rfl) r2) (ha.free hf) (fun y hy => by
      rw [upds_fresh (nodupId_ne hd y hy)]; exact hn y (List.mem_append_right _ hy)) (nodupId_append hd).2.1
    rw [upds_append]
    exact ⟨c2, fp2, ha.trans hb, ⟨[v], v2, [], [], rfl, rfl, R_mono hb.adv hr, hrs⟩, by simp [hcell, hall]⟩
theorem impoE_ok {n d q : Nat} {x : PV} {v : Value} (ok : StOK c S (hp w) fp) (r : RX c S (hp w) x v f) (hf : Free c S fp f) (hn : ∀ y ∈ (impoE n d x q).2.2, S y.1 = none) (hd : nodupId (impoE n d x q).2.2 = true) :
    ∃ c' fp', Added c S w fp f c' (upds S (impoE n d x q).2.2) fp' ∧ RV1 c' (upds S (impoE n d x q).2.2) (hp w) (impoE n d x q).1 v := by
  cases x with
  | agg cs =>
    obtain ⟨vs, rfl, hc, r⟩ := r
    obtain ⟨c1, fp1, h1, h2, h3⟩ := impos_ok (n := n) (d := d) (q := q) hc ok r hf hn hd
    exact ⟨c1, fp1, h1, vs, rfl, h3, h2⟩
  | undef => exact r.elim
  | tup _ => exact r.elim
  | non => exact r.elim
  | bx cs =>
    obtain ⟨c1, fp1, h1, h2, h3⟩ := impo1_ok (n := n) (d := d) (q := q) (.inr ⟨cs, rfl⟩) ok r hf hn
    exact ⟨c1, fp1, h1, h2⟩
  | sl u k xs =>
    obtain ⟨c1, fp1, h1, h2, h3⟩ := impo1_ok (n := n) (d := d) (q := q) (.inl rfl) ok r hf hn
    refine ⟨c1, fp1, h1, ?_⟩
    cases u <;> exact h2
  | _ =>
    obtain ⟨c1, fp1, h1, h2, h3⟩ := impo1_ok (n := n) (d := d) (q := q) (.inl rfl) ok r hf hn
    exact ⟨c1, fp1, h1, h2⟩
theorem RX_mono {x : PV} {v : Value} (ha : Adv c c' S S') (r : RX c S (hp w) x v f) : RX c' S' (hp w) x v f := by
  cases x with
  | bx cs =>
    obtain ⟨g, cur, e, h0, h1, h2, h3, h4, h5⟩ := r
    exact ⟨g, cur, e, h0, h1, h2, h3, Rs.adv ha _ _ _ (fun _ _ => rfl) h4, h5⟩
  | agg cs => obtain ⟨vs, e, r⟩ := r; exact ⟨vs, e, R_mono ha r⟩
  | undef => exact r.elim
  | _ => exact R_mono (f := f) ha r
theorem RXs_mono (ha : Adv c c' S S') : ∀ {xs : List PV} {vs : List Value} {f : List Nat}, RXs c S (hp w) xs vs f → RXs c' S' (hp w) xs vs f
  | [], _, _, r => r
  | _ :: _, _, _, ⟨v, ws, f1, f2, h1, h2, h3, h4⟩ => ⟨v, ws, f1, f2, h1, h2, RX_mono ha h3, RXs_mono ha h4⟩
theorem impoEs_ok {n d : Nat} : ∀ {xs : List PV} {q : Nat} {vs : List Value} {c : Ctx} {S : Sto} {fp : Id → List Nat} {f : List Nat}, StOK c S (hp w) fp → RXs c S (hp w) xs vs f → Free c S fp f →
    (∀ y ∈ (impoEs n d xs q).2.2, S y.1 = none) → nodupId (impoEs n d xs q).2.2 = true →
    ∃ c' fp', Added c S w fp f c' (upds S (impoEs n d xs q).2.2) fp' ∧ RV1s c' (upds S (impoEs n d xs q).2.2) (hp w) (impoEs n d xs q).1 vs
  | [], q, vs, c, S, fp, f, ok, r, _, _, _ => by
    obtain ⟨rfl, rfl⟩ := r
    exact ⟨c, fp, Added.nil ok, rfl⟩
  | x :: xs, q, vs, c, S, fp, f, ok, r, hf, hn, hd => by
    obtain ⟨v, v2, f1, f2, rfl, rfl, r1, r2⟩ := r
    simp only [impoEs] at hn hd ⊢
    obtain ⟨c1, fp1, ha, hr⟩ := impoE_ok (n := n) (d := d) (q := q) ok r1 hf.left (fun y hy => hn y (List.mem_append_left _ hy)) (nodupId_append hd).1
    obtain ⟨c2, fp2, hb, hrs⟩ := impoEs_ok (n := n) (d := d) (q := (impoE n d x q).2.1) ha.ok (RXs_mono ha.adv r2) (ha.free hf) (fun y hy => by
      rw [upds_fresh (nodupId_ne hd y hy)]; exact hn y (List.mem_append_right _ hy)) (nodupId_append hd).2.1
    rw [upds_append]
    exact ⟨c2, fp2, ha.trans hb, v, v2, rfl, hr.adv hb.adv, hrs⟩
theorem impo_E {n d : Nat} {x : PV} (h : ∀ ps, x ≠ .tup ps) : impo n d x 0 = impoE n d x 0 := by
  cases x <;> first | rfl | exact absurd rfl (h _)
theorem impoE_nt {n d q : Nat} {x : PV} (h : ∀ ps, x ≠ .tup ps) : ∀ qs, (impoE n d x q).1 ≠ .tup qs := by
  intro qs
  cases x with
  | tup ps => exact absurd rfl (h ps)
  | sl u k xs => cases u <;> (intro e; cases e)
  | _ => intro e; cases e
theorem Ret_RX {x : PV} {v : Value} (h : ∀ ps, x ≠ .tup ps) (r : Ret c S (hp w) x v f) : RX c S (hp w) x v f := by
  cases x <;> first | exact r | exact absurd rfl (h _)
theorem impo_ok {n d : Nat} {x : PV} {v : Value} (ok : StOK c S (hp w) fp) (r : Ret c S (hp w) x v f) (hf : Free c S fp f) (hn : ∀ y ∈ (impo n d x 0).2.2, S y.1 = none) (hd : nodupId (impo n d x 0).2.2 = true) :
    ∃ c' fp', Added c S w fp f c' (upds S (impo n d x 0).2.2) fp' ∧ RVal c' (upds S (impo n d x 0).2.2) (hp w) (impo n d x 0).1 v := by
  by_cases ht : ∃ ps, x = .tup ps
  · obtain ⟨ps, rfl⟩ := ht
    obtain ⟨vs, rfl, r⟩ := r
    obtain ⟨c1, fp1, h1, h2⟩ := impoEs_ok (n := n) (d := d) (q := 0) ok r hf hn hd
    exact ⟨c1, fp1, h1, vs, rfl, h2⟩
  · have ht' : ∀ ps, x ≠ .tup ps := fun ps e => ht ⟨ps, e⟩
    rw [impo_E ht'] at hn hd ⊢
    obtain ⟨c1, fp1, h1, h2⟩ := impoE_ok (n := n) (d := d) (q := 0) ok (Ret_RX ht' r) hf hn hd
    exact ⟨c1, fp1, h1, RV1_RVal h2 (impoE_nt ht')⟩
end
end Go.Am
end
section
/- One step of a region. -/
set_option linter.unusedSimpArgs false
set_option linter.unusedVariables false
namespace Go.Am
open Go.RowKit
theorem packs_ws {mv S xs ys ws} (e : packs mv S xs = some (ys, ws)) : ∀ z ∈ ws, ∃ ob, S z.1 = some ob := by
  have e' : packE mv S (.agg xs) = some (.agg ys, ws) := by simp only [packE, e]
  intro z hz
  obtain ⟨k, zs, h⟩ := packE_ws e' z hz
  exact ⟨_, h⟩
theorem packEs_ws {mv S} : ∀ {xs ys ws}, packEs mv S xs = some (ys, ws) → ∀ z ∈ ws, ∃ ob, S z.1 = some ob
  | [], _, _, e, z, hz => by simp only [packEs, Option.some.injEq, Prod.mk.injEq] at e; rw [← e.2] at hz; cases hz
  | x :: xs, _, _, e, z, hz => by
    simp only [packEs] at e
    split at e
    · rename_i y w1 ys2 w2 h1 h2
      simp only [Option.some.injEq, Prod.mk.injEq] at e
      rw [← e.2] at hz
      rcases List.mem_append.1 hz with h | h
      · obtain ⟨k, zs, h⟩ := packE_ws h1 z h; exact ⟨_, h⟩
      · exact packEs_ws h2 z h
    · cases e
/-- What an operation turns: objects that are there, or one of its own. -/
def WsOK (S : Sto) (n d : Nat) (ws : List (Id × OB)) : Prop := ∀ z ∈ ws, (∃ ob, S z.1 = some ob) ∨ z.1 = (n, d)
theorem WsOK.nil {S n d} : WsOK S n d [] := fun z hz => by cases hz
theorem WsOK.new {S n d} {ob : OB} : WsOK S n d [((n, d), ob)] := fun z hz => by simp only [List.mem_singleton] at hz; subst hz; exact .inr rfl
theorem WsOK.at {S n d} {id : Id} {ob ob' : OB} (h : S id = some ob') : WsOK S n d [(id, ob)] := fun z hz => by simp only [List.mem_singleton] at hz; subst hz; exact .inl ⟨_, h⟩
theorem WsOK.app {S n d a b} (h : WsOK S n d a) (k : WsOK S n d b) : WsOK S n d (a ++ b) := fun z hz => (List.mem_append.1 hz).elim (h z) (k z)
theorem WsOK.old {S n d ws} (h : ∀ z ∈ ws, ∃ ob, S z.1 = some ob) : WsOK S n d ws := fun z hz => .inl (h z hz)
set_option maxHeartbeats 1000000 in
theorem core1_ws {n d : Nat} {S : Sto} {k : K} {ps : List PV} {y : PV} {ws : List (Id × OB)} (e : core1 n d S k ps = some (y, ws)) : WsOK S n d ws := by
  unfold core1 at e
  split at e <;> (repeat' split at e) <;> first
    | (cases e; done)
    | (simp only [Option.some.injEq, Prod.mk.injEq] at e
       obtain ⟨_, rfl⟩ := e
       first
         | exact WsOK.nil
         | exact WsOK.new
         | exact WsOK.at (by assumption)
         | exact WsOK.app (WsOK.at (by assumption)) WsOK.new
         | exact WsOK.app (WsOK.old (packEs_ws (by assumption))) WsOK.new
         | exact WsOK.app (WsOK.old (packs_ws (by assumption))) (WsOK.at (by assumption))
         | (refine WsOK.app ?_ (WsOK.at (by assumption))
            rcases srcOf_ws (by assumption) with rfl | ⟨_, _, _, rfl, h⟩
            · exact WsOK.nil
            · exact WsOK.at h)
         | (refine WsOK.app ?_ WsOK.new
            rcases srcOf_ws (by assumption) with rfl | ⟨_, _, _, rfl, h⟩
            · exact WsOK.nil
            · exact WsOK.at h))
/-- The stack's objects. -/
def gt (o : Stack) : Sto := (⟨[], [], o⟩ : St).get
def Lv (n : Nat) (S : Sto) : Prop := ∀ i ob, S i = some ob → i.1 < n
theorem gt_lv (o : Stack) : Lv o.length (gt o) := by
  intro i ob h
  have h1 := get_lvl h
  rcases Nat.lt_or_eq_of_le h1 with h2 | h2
  · exact h2
  · simp only [gt, St.get] at h
    rw [if_pos h2] at h
    simp [getO] at h
theorem gt_get (s : St) : gt s.o = hideS s.get s.o.length := by
  funext i
  simp only [gt, hideS, St.get]
  by_cases h : i.1 = s.o.length
  · simp [h, getO]
  · by_cases h2 : i.1 < s.o.length
    · simp [h, h2]
    · simp only [h, h2, if_false]
      have : s.o[i.1]? = none := List.getElem?_eq_none (by omega)
      rw [this]; rfl
theorem sets_o_length : ∀ (ws : List (Id × OB)) (s : St), (s.sets ws).o.length = s.o.length
  | [], _ => rfl
  | (id, ob) :: r, s => by simp only [St.sets]; rw [sets_o_length r, set_o_length]
theorem put_o (s : St) (d : Option Nat) (v : PV) : (s.put d v).o = s.o := by cases d <;> rfl
/-- Where a run stands: the registers and objects, and what has come of the objects that were there at its begin. -/
def Inv (N : Nat) (c0 : Ctx) (S0 : Sto) (w0 : World) (n : Nat) (s : St) (a : Act) (w : World) : Prop :=
  ∃ c fp, Sim N c fp s a w ∧ Adv c0 c S0 s.get ∧ Grew w0 w ∧ (∀ id ob, s.get id = some ob → id.1 = n ∨ ∃ ob', S0 id = some ob') ∧ s.o.length = n
section
variable {P : Program} {N : Nat} {c0 c c' : Ctx} {S0 : Sto} {w0 w w' : World} {n : Nat} {s : St} {a : Act} {fp fp' : Id → List Nat}
theorem put_tmps {d : Nat} (hd : d < N) (hsz : N ≤ a.tmps.size) (v : Value) (t : Nat) : (a.put (some d) v).tmps.getD t undef = if d = t then v else a.tmps.getD t undef := by
  simp only [Act.put]
  by_cases h : d = t
  · subst h
    have : d < a.tmps.size := by omega
    simp [Array.getElem?_setIfInBounds, this]
  · simp [Array.getElem?_setIfInBounds_ne h, h]
theorem Sim.put {d : Option Nat} {y : PV} {v : Value} (sim : Sim N c fp s a w) (hd : ∀ t, d = some t → t < N) (r : RVal c s.get (hp w) y v) : Sim N c fp (s.put d y) (a.put d v) w := by
  cases d with
  | none => exact sim
  | some d =>
    refine ⟨fun t => ?_, by rw [get_put]; exact sim.st, sim.df, by simpa [Act.put] using sim.sz⟩
    rw [get_put, put_tmps (hd d rfl) sim.sz]
    simp only [St.put, getR]
    by_cases h : d = t
    · simp only [h, if_true]; exact r
    · simp only [h, if_false]; exact sim.rg t
theorem Sim.move {ws : List (Id × OB)} (sim : Sim N c fp s a w) (hl : ∀ x ∈ ws, x.1.1 ≤ s.o.length) (ok : StOK c' (upds s.get ws) (hp w') fp') (ha : Adv c c' s.get (upds s.get ws)) : Sim N c' fp' (s.sets ws) a w' := by
  have hg := get_sets ws s hl
  refine ⟨fun t => ?_, by rw [hg]; exact ok, sim.df, sim.sz⟩
  rw [hg, sets_r]
  exact (sim.rg t).adv ha
theorem ws_le {d : Nat} {ws : List (Id × OB)} (h : WsOK s.get s.o.length d ws) : ∀ x ∈ ws, x.1.1 ≤ s.o.length := by
  intro x hx
  rcases h x hx with ⟨ob, h⟩ | h
  · exact get_lvl h
  · rw [h]; exact Nat.le_refl _
theorem Inv.step {d : Option Nat} {ws : List (Id × OB)} {y : PV} {v : Value} (inv : Inv N c0 S0 w0 n s a w) (hd : ∀ t, d = some t → t < N) (hws : WsOK s.get s.o.length (d.getD 999) ws)
    (hy : ∀ c fp, Sim N c fp s a w → ∃ c' fp', StOK c' (upds s.get ws) (hp w') fp' ∧ Adv c c' s.get (upds s.get ws) ∧ RVal c' (upds s.get ws) (hp w') y v ∧ Grew w w') : Inv N c0 S0 w0 n ((s.sets ws).put d y) (a.put d v) w' := by
  obtain ⟨c, fp, sim, ha, hg, hdom, hn⟩ := inv
  obtain ⟨c', fp', h1, h2, h3, h4⟩ := hy c fp sim
  have hl := ws_le hws
  have hgs := get_sets ws s hl
  refine ⟨c', fp', (sim.move hl h1 h2).put hd (by rw [hgs]; exact h3), ?_, hg.trans h4, ?_, by rw [put_o, sets_o_length]; exact hn⟩
  · rw [get_put, hgs]; exact ha.trans h2
  · rw [get_put, hgs]
    intro id ob hob
    have key : ∀ (ws : List (Id × OB)) (S : Sto), upds S ws id = some ob → (∃ x ∈ ws, x.1 = id) ∨ S id = some ob := by
      intro ws
      induction ws with
      | nil => intro S h; exact .inr h
      | cons p r ih =>
        obtain ⟨i, o⟩ := p
        intro S h
        simp only [upds] at h
        rcases ih _ h with ⟨x, hx, e⟩ | h
        · exact .inl ⟨x, List.mem_cons_of_mem _ hx, e⟩
        · by_cases hi : id = i
          · exact .inl ⟨_, List.mem_cons_self, hi.symm⟩
          · exact .inr (by simpa [upd, hi] using h)
    rcases key ws _ hob with ⟨x, hx, rfl⟩ | h
    · rcases hws x hx with ⟨ob', h⟩ | h
      · exact hdom x.1 ob' h
      · exact .inl (by rw [h]; exact hn)
    · exact hdom id ob h
end
/-! #### operations of a region -/
def isChk : K → Bool | .chk _ => true | _ => false
def isCall : K → Bool | .call _ _ => true | _ => false
theorem core_core1 {n d : Nat} {g : Id → Option OB} {k : K} {ps : List PV} (h : isChk k = false) : core n d g k ps = core1 n d g k ps := by
  unfold core
  split
  · simp [isChk] at h
  · rfl
/-- The guard of an operation, as the machine's step reads it. -/
def okG (ops : Array Oper) : Option (Nat × Bool) → Option (Nat × Bool) → Bool
  | none, none => true
  | some (j, b), some (g, b') => (ops[g]?).bind (·.dst) == some j && b == b'
  | _, _ => false
noncomputable def stepGo (call : CallF) (s : St) (a : AI) : Option St := match a.op with
  | .call byref leaky => stepCall call s a.d byref leaky (a.xs.map s.ev)
  | op => match core s.o.length (a.d.getD 999) s.get op (a.xs.map s.ev) with
    | some (v, ws) => some ((s.sets ws).put a.d v)
    | none => none
theorem stepI_eq (call : CallF) (s : St) (a : AI) : stepI call s a = match a.g with
  | none => stepGo call s a
  | some (j, w) => match getR s.r j with | .sc (.bool b) => if b = w then stepGo call s a else some (s.put a.d .non) | .non => some (s.put a.d .non) | _ => none := by
  unfold stepI stepGo
  rfl
section
variable {P : Program} {N : Nat} {c0 c c' : Ctx} {S0 : Sto} {w0 w w' : World} {n : Nat} {s : St} {a : Act} {fp fp' : Id → List Nat}
theorem sets_nil (s : St) : s.sets [] = s := rfl
/-- The guard agrees. -/
theorem guard_ok {call : CallF} {ops : Array Oper} {o : Oper} {ai : AI} {s' : St} (inv : Inv N c0 S0 w0 n s a w) (hg : okG ops ai.g o.guard = true) (hd : ai.d = o.dst) (hdN : ∀ t, ai.d = some t → t < N) (e : stepI call s ai = some s') :
    (Region.wanted o (yielded ops a.tmps) = true ∧ stepGo call s ai = some s') ∨ (Region.wanted o (yielded ops a.tmps) = false ∧ Inv N c0 S0 w0 n s' (a.put o.dst undef) w) := by
  rw [stepI_eq] at e
  unfold okG at hg
  split at hg
  · rename_i h1 h2
    rw [h1] at e
    exact .inl ⟨by simp [Region.wanted, h2], e⟩
  · rename_i j b g b' h1 h2
    simp only [Bool.and_eq_true] at hg
    obtain ⟨hg1, hg2⟩ := hg
    have hg1 := eq_of_beq hg1
    obtain rfl := eq_of_beq hg2
    rw [h1] at e
    simp only at e
    obtain ⟨c, fp, sim, hrest⟩ := id inv
    have hr := sim.rg j
    have skip : Inv N c0 S0 w0 n (s.put ai.d .non) (a.put o.dst undef) w := by
      rw [← hd]
      have := inv.step (d := ai.d) (ws := []) (y := .non) (v := undef) (w' := w) hdN WsOK.nil (fun c fp sim => ⟨c, fp, sim.st, Adv.refl _ _, rfl, Grew.refl _⟩)
      exact this
    split at e
    · rename_i bb hb
      rw [hb] at hr
      have hv := sc_eq hr
      have hy : yielded ops a.tmps g = some bb := by
        unfold yielded
        rw [hg1]
        simp only [Option.bind_some]
        cases ht : a.tmps[j]? with
        | none => simp [ht, undef] at hv
        | some u =>
          have : u = .bool bb := by simpa [ht] using hv
          rw [this]
      split at e
      · rename_i hbw
        subst hbw
        exact .inl ⟨by simp [Region.wanted, h2, hy], e⟩
      · rename_i hbw
        simp only [Option.some.injEq] at e
        subst e
        exact .inr ⟨by simp [Region.wanted, h2, hy, hbw], skip⟩
    · rename_i hb
      rw [hb] at hr
      simp only [Option.some.injEq] at e
      subst e
      have hv : a.tmps.getD j undef = undef := hr
      have hy : yielded ops a.tmps g = none := by
        unfold yielded
        rw [hg1]
        simp only [Option.bind_some]
        cases ht : a.tmps[j]? with
        | none => rfl
        | some u =>
          have : u = undef := by simpa [ht] using hv
          rw [this]; rfl
      exact .inr ⟨by simp [Region.wanted, h2, hy], skip⟩
    · cases e
  · cases hg
/-- An operation that is no call. -/
theorem go_ok {call : CallF} {o : Oper} {ai : AI} {s' : St} {K : Act → World → Prop} {Q : Exit → Act → World → Prop} (inv : Inv N c0 S0 w0 n s a w) (hlv : Lv n S0) (hk : okOp P ai.op o.op = true) (hc : isChk ai.op = false) (hcl : isCall ai.op = false) (hx : opdsOK ai.xs (opArgs o.op) = true)
    (hd : ai.d = o.dst) (hdN : ∀ t, ai.d = some t → t < N) (e : stepGo call s ai = some s') (hK : ∀ a' w', Inv N c0 S0 w0 n s' a' w' → K a' w') : o.wp P a w K Q := by
  have e' : ∃ v ws, core1 s.o.length (ai.d.getD 999) s.get ai.op (ai.xs.map s.ev) = some (v, ws) ∧ s' = (s.sets ws).put ai.d v := by
    unfold stepGo at e
    split at e
    · rename_i h; rw [h] at hcl; simp [isCall] at hcl
    · rw [core_core1 hc] at e
      split at e
      · rename_i v ws h
        simp only [Option.some.injEq] at e
        exact ⟨v, ws, h, e.symm⟩
      · cases e
  obtain ⟨y, ws, h1, rfl⟩ := e'
  have hws := core1_ws h1
  obtain ⟨c, fp, sim, ha, hg, hdom, hn⟩ := id inv
  have hlv' : ∀ i ob, s.get i = some ob → i.1 ≤ s.o.length := fun i ob h => get_lvl h
  obtain ⟨nx, v, w', c', fp', hr, hnx, _, _, _, _⟩ := op_sound (P := P) (fun _ => rfl) hlv' sim.st hk (opds_RVals sim hx) h1
  -- the value and the world do not depend on the context
  have hin : Inv N c0 S0 w0 n ((s.sets ws).put ai.d y) (a.put ai.d v) w' := by
    refine inv.step hdN hws (fun c2 fp2 sim2 => ?_)
    obtain ⟨nx2, v2, w2, c3, fp3, hr2, hnx2, k1, k2, k3, k4⟩ := op_sound (P := P) (fun _ => rfl) hlv' sim2.st hk (opds_RVals sim2 hx) h1
    rw [hr] at hr2
    simp only [Result.ok.injEq] at hr2
    obtain ⟨rfl, rfl⟩ := hr2
    have hvv : v = v2 := by
      rcases hnx with rfl | ⟨rfl, rfl⟩ <;> rcases hnx2 with h | ⟨h, h'⟩
      · injection h
      · cases h
      · cases h
      · exact h'.symm
    subst hvv
    exact ⟨c3, fp3, k1, k2, k3, k4⟩
  unfold Oper.wp
  rw [hr]
  rw [hd] at hin
  rcases hnx with rfl | ⟨rfl, rfl⟩
  · exact hK _ _ (by rw [← hd] at hin ⊢; exact hin)
  · exact hK _ _ (by rw [← hd] at hin ⊢; exact hin)
end
end Go.Am
end
section
/- A call as the caller sees it. -/
set_option linter.unusedSimpArgs false
set_option linter.unusedVariables false
namespace Go.Am
open Go.RowKit
section
variable {c c' : Ctx} {S S' : Sto} {h h' : Hp} {m : Nat}
mutual
theorem R.lv (hl : Lv m S) : ∀ (x : PV) (vs : List Value) (fp : List Nat), R c S h x vs fp → inLv m x = true
  | .undef, _, _, _ | .sc _, _, _, _ | .nils, _, _, _ | .sl _ _ _, _, _, _ | .iref _ _, _, _, _ | .non, _, _, _ => rfl
  | .own id k, _, _, r => by
    obtain ⟨_, v, _, _, h⟩ := r
    unfold OwnOK at h
    cases hs : S id with
    | none => rw [hs] at h; exact h.elim
    | some ob => simpa [inLv] using hl id ob hs
  | .ref id k i j, _, _, r => by
    obtain ⟨_, v, _, _, h⟩ := r
    unfold RefOK at h
    cases hs : S id with
    | none => rw [hs] at h; exact h.elim
    | some ob => simpa [inLv] using hl id ob hs
  | .mp id, _, _, r => by
    obtain ⟨_, v, _, _, h⟩ := r
    unfold MapOK at h
    cases hs : S id with
    | none => rw [hs] at h; exact h.elim
    | some ob => simpa [inLv] using hl id ob hs
  | .clo f caps, _, _, r => by
    obtain ⟨_, ws, _, _, h⟩ := r
    simp only [inLv]
    exact Rs.lv hl caps ws [] h
  | .agg cs, vs, fp, r => by
    simp only [inLv]
    exact Rs.lv hl cs vs fp r.2
  | .tup _, _, _, r => r.elim
  | .bx _, _, _, r => r.elim
theorem Rs.lv (hl : Lv m S) : ∀ (xs : List PV) (vs : List Value) (fp : List Nat), Rs c S h xs vs fp → inLvs m xs = true
  | [], _, _, _ => rfl
  | x :: xs, _, _, r => by
    obtain ⟨v1, v2, f1, f2, _, _, r1, r2⟩ := r
    simp only [inLvs, Bool.and_eq_true]
    exact ⟨R.lv hl x v1 f1 r1, Rs.lv hl xs v2 f2 r2⟩
end
theorem RX.vis {x : PV} {v : Value} {f : List Nat} (hl : Lv m S) (hF : ∀ b o, c.F b = some o → c'.F b = some o) (hS : ∀ id, id.1 < m → S' id = S id ∧ c'.L id = c.L id) (r : RX c S h x v f) : RX c' S' h x v f := by
  cases x with
  | bx cs =>
    obtain ⟨g, cur, e, h0, h1, h2, h3, h4, h5⟩ := r
    exact ⟨g, cur, e, h0, h1, h2, h3, Rs.vis hF hS _ _ _ (Rs.lv hl _ _ _ h4) (fun _ _ => rfl) h4, h5⟩
  | agg cs => obtain ⟨vs, e, r⟩ := r; exact ⟨vs, e, R.vis hF hS _ _ _ (R.lv hl _ _ _ r) (fun _ _ => rfl) r⟩
  | undef => exact r.elim
  | tup _ => exact r.elim
  | non => exact r.elim
  | _ => exact R.vis hF hS _ _ f (R.lv (c := c) (h := h) hl _ _ f r) (fun _ _ => rfl) r
theorem RXs.vis (hl : Lv m S) (hF : ∀ b o, c.F b = some o → c'.F b = some o) (hS : ∀ id, id.1 < m → S' id = S id ∧ c'.L id = c.L id) : ∀ {xs : List PV} {vs : List Value} {f : List Nat}, RXs c S h xs vs f → RXs c' S' h xs vs f
  | [], _, _, r => r
  | _ :: _, _, _, ⟨v, ws, f1, f2, h1, h2, h3, h4⟩ => ⟨v, ws, f1, f2, h1, h2, RX.vis hl hF hS h3, RXs.vis hl hF hS h4⟩
theorem Ret.vis {x : PV} {v : Value} {f : List Nat} (hl : Lv m S) (hF : ∀ b o, c.F b = some o → c'.F b = some o) (hS : ∀ id, id.1 < m → S' id = S id ∧ c'.L id = c.L id) (r : Ret c S h x v f) : Ret c' S' h x v f := by
  by_cases ht : ∃ ps, x = .tup ps
  · obtain ⟨ps, rfl⟩ := ht
    obtain ⟨vs, e, r⟩ := r
    exact ⟨vs, e, RXs.vis hl hF hS r⟩
  · have ht' : ∀ ps, x ≠ .tup ps := fun ps e => ht ⟨ps, e⟩
    have r' : RX c S h x v f := by cases x <;> first | exact r | exact absurd rfl (ht' _)
    have := RX.vis hl hF hS r'
    cases x <;> first | exact this | exact absurd rfl (ht' _)
end
/-- What a call does, as its callers see it. -/
def Did (c : Ctx) (S : Sto) (w : World) (S' : Sto) (r : PV) : Ending → World → Prop := fun e w' =>
  ∃ v c' fp' f', e = .returned v ∧ Grew w w' ∧ StOK c' S' (hp w') fp' ∧ Adv c c' S S' ∧ Free c' S' fp' f' ∧ Ret c' S' (hp w') r v f'
/-- A function with a body. -/
def isGo (P : Program) (f : Nat) : Prop := ∃ fn, P.funcs[f]? = some fn ∧ fn.body.isSome = true ∧ fn.name ≠ "runtime.NumGoroutine"
/-- The stack keeps its form. -/
def Shape (o o' : Stack) : Prop := o'.length = o.length ∧ ∀ id ob, gt o' id = some ob → ∃ ob', gt o id = some ob'
def Good (P : Program) (f : Nat) (args : List PV) (o : Stack) (r : PV) (o' : Stack) : Prop :=
  isGo P f ∧ ∀ c fp w vals, StOK c (gt o) (hp w) fp → RVals c (gt o) (hp w) args vals → Calls P f vals.toArray w (fun e w' => Shape o o' ∧ Did c (gt o) w (gt o') r e w')
def SoundC (P : Program) (call : CallF) : Prop := ∀ f args o r o', call f args o = some (r, o') → Good P f args o r o'
section
variable {P : Program} {c c' : Ctx} {S S' : Sto} {w w' : World} {fp fp' : Id → List Nat} {m : Nat}
theorem back_free {f : List Nat} (ok : StOK c S (hp w) fp) (ha : Adv (hideC c S fp m (hp w)) c' (hideS S m) S') (hf : Free c' S' fp' f) : Free (backC c c' m) (backS S S' m) (backF fp fp' m) f := by
  have hX : c'.X = (hideC c S fp m (hp w)).X := ha.X
  refine ⟨hf.1, fun b hb => ?_⟩
  obtain ⟨hu, hn⟩ := hf.2 b hb
  have hx := hu.2
  rw [hX] at hx
  simp only [hideC] at hx
  have key : ¬ ∃ id ob, m ≤ id.1 ∧ S id = some ob ∧ b ∈ fp id := by
    intro h
    rw [if_pos h] at hx
    obtain ⟨id, ob, _, hs, hb'⟩ := h
    have := ok.lt hs hb'
    simp only [hp, Array.getElem?_eq_none_iff] at hx
    omega
  rw [if_neg key] at hx
  refine ⟨⟨hu.1, hx⟩, fun id ob hs hb' => ?_⟩
  by_cases hm : id.1 < m <;> simp only [backS, backF, hm, if_true, if_false] at hs hb'
  · exact hn id ob hs hb'
  · exact key ⟨id, ob, by omega, hs, hb'⟩
/-- A call with part of the objects in view. -/
theorem view_ok {call : CallF} {f : Nat} {args : List PV} {vals : List Value} {oi o' : Stack} {r : PV} (ok : StOK c S (hp w) fp) (hoi : gt oi = hideS S m) (hargs : inLvs m args = true) (hr : RVals c S (hp w) args vals) (hg : Good P f args oi r o') :
    Calls P f vals.toArray w (fun e w' => Shape oi o' ∧ Did c S w (backS S (gt o') m) r e w') := by
  obtain ⟨_, h3⟩ := hg
  have hok := hide_ok (m := m) ok
  have hargs' : RVals (hideC c S fp m (hp w)) (hideS S m) (hp w) args vals := RVals.vis (c := c) (c' := hideC c S fp m (hp w)) (S := S) (S' := hideS S m) (w := w) (fun _ _ h => h) (fun id hid => ⟨by simp [hideS, hid], rfl⟩) hargs hr
  refine Calls.mono (h3 (hideC c S fp m (hp w)) fp w vals (by rw [hoi]; exact hok) (by rw [hoi]; exact hargs')) ?_
  rintro e w' ⟨hsh, v, c', fp', f', rfl, hgr, hok', hadv, hfree, hret⟩
  have hl : Lv m (gt o') := fun id ob h => by
    obtain ⟨ob', h'⟩ := hsh.2 id ob h
    rw [hoi] at h'
    exact (hideS_some h').1
  rw [hoi] at hadv
  obtain ⟨k1, k2⟩ := back_ok ok hok' hadv
  exact ⟨hsh, v, backC c c' m, backF fp fp' m, f', rfl, hgr, k1, k2, back_free ok hadv hfree, Ret.vis (c := c') (S := gt o') hl (fun _ _ h => h) (fun id hid => ⟨by simp [backS, hid], by simp [backC, hid]⟩) hret⟩
/-! #### the three ways -/
theorem gt_nil : gt [] = fun _ => none := by
  funext i
  simp only [gt, St.get, List.length_nil]
  by_cases h : i.1 = 0
  · simp [h, getO]
  · simp [h]
theorem hideS_zero : hideS S 0 = fun _ => none := by funext i; simp [hideS]
theorem gt_snoc (r : Regs) (o : Stack) (l : Objs) : gt (o ++ [l]) = (⟨r, l, o⟩ : St).get := by
  funext i
  simp only [gt, St.get, List.length_append, List.length_cons, List.length_nil]
  by_cases h : i.1 = o.length
  · have : ¬ i.1 = o.length + 1 := by omega
    simp [h, getO]
  · by_cases h2 : i.1 = o.length + 1
    · have : o[i.1]? = none := List.getElem?_eq_none (by omega)
      simp [h2, getO]
    · rcases Nat.lt_or_ge i.1 o.length with h3 | h3
      · simp [h, h2, List.getElem?_append_left h3]
      · have e1 : o[i.1]? = none := List.getElem?_eq_none (by omega)
        have e2 : (o ++ [l])[i.1]? = none := List.getElem?_eq_none (by simp; omega)
        simp only [h, h2, if_false, e1, e2]
theorem get_r (s : St) (r : Regs) : ({ s with r := r } : St).get = s.get := rfl
theorem snoc_of_length {α : Type} {o : List α} {n : Nat} (d : α) (h : o.length = n + 1) : o.dropLast ++ [o.getLastD d] = o := by
  rcases List.eq_nil_or_concat o with rfl | ⟨l, a, rfl⟩
  · simp at h
  · simp
theorem callBy_ok {call : CallF} (hs : SoundC P call) {s s1 : St} {f : Nat} {args : List PV} {vals : List Value} {r : PV} (ok : StOK c s.get (hp w) fp) (hr : RVals c s.get (hp w) args vals) (e : callBy call s.o.length s f args = some (r, s1)) :
    s1.r = s.r ∧ (noRefs args = true → s1 = s) ∧ isGo P f ∧ Calls P f vals.toArray w (fun e w' => (s1.o.length = s.o.length ∧ ∀ id ob, s1.get id = some ob → ∃ ob', s.get id = some ob') ∧ Did c s.get w s1.get r e w') := by
  have hup : upTos s.o.length args = true := by
    have key : ∀ {xs : List PV} {vs : List Value}, RVals c s.get (hp w) xs vs → upTos s.o.length xs = true := by
      intro xs
      induction xs with
      | nil => intro vs _; rfl
      | cons x xs ih =>
        rintro vs ⟨v, ws, rfl, r1, r2⟩
        simp only [upTos, Bool.and_eq_true]
        refine ⟨?_, ih r2⟩
        have hlv : ∀ i ob, s.get i = some ob → i.1 ≤ s.o.length := fun i ob h => get_lvl h
        have h1 : ∀ {y : PV} {u : Value}, RV1 c s.get (hp w) y u → upTo s.o.length y = true := by
          intro y u r
          cases y with
          | undef => rfl
          | non => rfl
          | agg cs => obtain ⟨vs, _, r⟩ := r; exact R.up hlv _ _ _ r
          | tup _ => exact (show False from r).elim
          | bx _ => exact (show False from r).elim
          | _ => exact R.up (c := c) (h := hp w) hlv _ _ _ r
        cases x with
        | tup ps =>
          obtain ⟨vs, _, r⟩ := r1
          have h2 : ∀ {ys : List PV} {us : List Value}, RV1s c s.get (hp w) ys us → upTos s.o.length ys = true := by
            intro ys
            induction ys with
            | nil => intro us _; rfl
            | cons y ys ih => rintro us ⟨u, us', rfl, q1, q2⟩; simp only [upTos, Bool.and_eq_true]; exact ⟨h1 q1, ih q2⟩
          exact h2 r
        | _ => exact h1 (u := v) r1
    exact key hr
  unfold callBy at e
  split at e
  · rename_i hn
    split at e
    · rename_i r' o' hc
      simp only [Option.some.injEq, Prod.mk.injEq] at e
      obtain ⟨rfl, rfl⟩ := e
      have hg := hs _ _ _ _ _ hc
      refine ⟨rfl, fun _ => rfl, hg.1, ?_⟩
      refine Calls.mono (view_ok (call := call) (m := 0) ok (by rw [gt_nil, hideS_zero]) (inLvs_noRef hn) hr hg) ?_
      rintro e w' ⟨_, hd⟩
      have hb : backS s.get (gt o') 0 = s.get := by funext i; simp [backS]
      rw [hb] at hd
      exact ⟨⟨rfl, fun id ob h => ⟨ob, h⟩⟩, hd⟩
    · cases e
  · rename_i hn
    split at e
    · -- with this frame's objects
      split at e
      · rename_i r' o' hc
        simp only [Option.some.injEq, Prod.mk.injEq] at e
        obtain ⟨rfl, rfl⟩ := e
        have hg := hs _ _ _ _ _ hc
        have hgt : gt (s.o ++ [s.l]) = s.get := gt_snoc s.r s.o s.l
        have hhide : hideS s.get (s.o.length + 1) = s.get := by
          funext i
          unfold hideS
          split
          · rfl
          · rename_i h
            cases hi : s.get i with
            | none => rfl
            | some ob => have := get_lvl hi; omega
        refine ⟨rfl, fun h => absurd h hn, hg.1, ?_⟩
        refine Calls.mono (view_ok (call := call) (m := s.o.length + 1) ok (by rw [hgt, hhide]) (inLvs_up hup) hr hg) ?_
        rintro e w' ⟨hsh, hd⟩
        have hl : o'.length = s.o.length + 1 := by have := hsh.1; simpa using this
        have hgt' : gt o' = ({ s with l := o'.getLastD [], o := o'.dropLast } : St).get := by
          have := gt_snoc s.r o'.dropLast (o'.getLastD [])
          rw [snoc_of_length [] hl] at this
          exact this
        have hb : backS s.get (gt o') (s.o.length + 1) = gt o' := by
          funext i
          unfold backS
          split
          · rfl
          · rename_i h
            cases hi : s.get i with
            | some ob => have := get_lvl hi; omega
            | none => cases hi' : gt o' i with
              | none => rfl
              | some ob => have := gt_lv o' i ob hi'; omega
        rw [hb, hgt'] at hd
        refine ⟨⟨by simp [hl], fun id ob h => ?_⟩, hd⟩
        rw [← hgt'] at h
        obtain ⟨ob', h'⟩ := hsh.2 id ob h
        rw [hgt] at h'; exact ⟨ob', h'⟩
      · cases e
    · rename_i hat
      split at e
      · rename_i r' o' hc
        simp only [Option.some.injEq, Prod.mk.injEq] at e
        obtain ⟨rfl, rfl⟩ := e
        have hg := hs _ _ _ _ _ hc
        have hgt : gt (s.o ++ [[]]) = hideS s.get s.o.length := by rw [gt_snoc s.r s.o [], ← gt_get]; rfl
        refine ⟨rfl, fun h => absurd h hn, hg.1, ?_⟩
        refine Calls.mono (view_ok (call := call) (m := s.o.length) ok hgt (inLvs_at hup (by simpa using hat)) hr hg) ?_
        rintro e w' ⟨hsh, hd⟩
        have hl : o'.length = s.o.length + 1 := by have := hsh.1; simpa using this
        have hb : backS s.get (gt o') s.o.length = ({ s with o := o'.dropLast } : St).get := by
          have h1 := gt_snoc s.r o'.dropLast (o'.getLastD [])
          rw [snoc_of_length [] hl] at h1
          funext i
          rw [h1]
          simp only [backS, St.get, List.length_dropLast, hl, Nat.add_sub_cancel]
          by_cases h : i.1 = s.o.length
          · simp [h]
          · by_cases h2 : i.1 < s.o.length
            · simp [h, h2]
            · simp only [h, h2, if_false]
              have e1 : s.o[i.1]? = none := List.getElem?_eq_none (by omega)
              have e2 : o'.dropLast[i.1]? = none := List.getElem?_eq_none (by simp; omega)
              rw [e1, e2]
        refine ⟨⟨by simp [hl], fun id ob h => ?_⟩, by rw [hb] at hd; exact hd⟩
        rw [← hb] at h
        unfold backS at h
        split at h
        · obtain ⟨ob', h'⟩ := hsh.2 id ob h
          rw [hgt] at h'
          exact ⟨ob', (hideS_some h').2⟩
        · exact ⟨ob, h⟩
      · cases e
end
end Go.Am
end
section
/- A call as a step of a region. -/
set_option linter.unusedSimpArgs false
set_option linter.unusedVariables false
namespace Go.Am
open Go.RowKit
section
variable {c c' : Ctx} {S S' : Sto} {h : Hp}
mutual
/-- What leads to nothing shared means the same everywhere. -/
theorem R.noShare : ∀ (x : PV) (vs : List Value) (fp : List Nat), Am.noShare x = true → R c S h x vs fp → R c' S' h x vs fp
  | .undef, _, _, t, _ => by simp [Am.noShare] at t
  | .sc _, _, _, _, r => r
  | .nils, _, _, _, r => r
  | .sl true k xs, vs, fp, t, r => by
    simp only [Am.noShare, Bool.true_and] at t
    simp only [R] at r ⊢
    obtain ⟨t1, hk, A, cp, e, r⟩ := r
    refine ⟨t1, hk, A, cp, e, ?_⟩
    rcases r with r | ⟨g, cur, et, ws, fq, h1, h2, h3, h4, h5, h7, h8, h9⟩
    · exact .inl r
    · exact .inr ⟨g, cur, et, ws, fq, h1, h2, h3, h4, h5, Rs.noShare xs ws fq t h7, h8, h9⟩
  | .sl false k xs, _, _, t, _ => by simp [Am.noShare] at t
  | .own _ _, _, _, t, _ => by simp [Am.noShare] at t
  | .ref _ _ _ _, _, _, t, _ => by simp [Am.noShare] at t
  | .iref _ _, _, _, t, _ => by simp [Am.noShare] at t
  | .mp _, _, _, t, _ => by simp [Am.noShare] at t
  | .clo _ _, _, _, t, _ => by simp [Am.noShare] at t
  | .agg cs, vs, fp, t, r => by
    simp only [Am.noShare] at t
    exact ⟨r.1, Rs.noShare cs vs fp t r.2⟩
  | .tup _, _, _, _, r => r.elim
  | .bx _, _, _, _, r => r.elim
  | .non, _, _, _, r => r.elim
theorem Rs.noShare : ∀ (xs : List PV) (vs : List Value) (fp : List Nat), noShares xs = true → Rs c S h xs vs fp → Rs c' S' h xs vs fp
  | [], _, _, _, r => r
  | x :: xs, vs, fp, t, r => by
    simp only [noShares, Bool.and_eq_true] at t
    obtain ⟨v1, v2, f1, f2, h1, h2, h3, h4⟩ := r
    exact ⟨v1, v2, f1, f2, h1, h2, R.noShare x v1 f1 t.1 h3, Rs.noShare xs v2 f2 t.2 h4⟩
end
theorem RX.noShare {x : PV} {v : Value} {f : List Nat} (t : Am.noShare x = true) (r : RX c S h x v f) : RX c' S' h x v f := by
  cases x with
  | bx cs =>
    simp only [Am.noShare] at t
    obtain ⟨g, cur, e, h0, h1, h2, h3, h4, h5⟩ := r
    exact ⟨g, cur, e, h0, h1, h2, h3, Rs.noShare _ _ _ t h4, h5⟩
  | agg cs => obtain ⟨vs, e, r⟩ := r; exact ⟨vs, e, R.noShare _ _ _ t r⟩
  | undef => exact r.elim
  | tup _ => exact r.elim
  | non => exact r.elim
  | _ => exact R.noShare (c := c) (S := S) (h := h) _ _ f t r
theorem RXs.noShare : ∀ {xs : List PV} {vs : List Value} {f : List Nat}, noShares xs = true → RXs c S h xs vs f → RXs c' S' h xs vs f
  | [], _, _, _, r => r
  | x :: xs, _, _, t, ⟨v, ws, f1, f2, h1, h2, h3, h4⟩ => by
    simp only [noShares, Bool.and_eq_true] at t
    exact ⟨v, ws, f1, f2, h1, h2, RX.noShare t.1 h3, RXs.noShare t.2 h4⟩
theorem Ret.noShare {x : PV} {v : Value} {f : List Nat} (t : Am.noShare x = true) (r : Ret c S h x v f) : Ret c' S' h x v f := by
  by_cases ht : ∃ ps, x = .tup ps
  · obtain ⟨ps, rfl⟩ := ht
    obtain ⟨vs, e, r⟩ := r
    exact ⟨vs, e, RXs.noShare t r⟩
  · have ht' : ∀ ps, x ≠ .tup ps := fun ps e => ht ⟨ps, e⟩
    have r' : RX c S h x v f := by cases x <;> first | exact r | exact absurd rfl (ht' _)
    have := RX.noShare (c' := c') (S' := S') t r'
    cases x <;> first | exact this | exact absurd rfl (ht' _)
end
abbrev Rws := List (Id × Nat × List PV)
section
variable {P : Program} {c c' : Ctx} {S S' : Sto} {w w' : World} {fp fp' : Id → List Nat}
/-! #### freezing what is handed over -/
structure Froze (c : Ctx) (S : Sto) (w : World) (fp : Id → List Nat) (rs : Rws) (c' : Ctx) (fp' : Id → List Nat) : Prop where
  ok : StOK c' (upds S (frzs rs)) (hp w) fp'
  adv : Adv c c' S (upds S (frzs rs))
  at' : ∀ x ∈ rs, upds S (frzs rs) x.1 = some (.frz x.2.1 (fals x.2.2))
  same : ∀ id, (∀ x ∈ rs, x.1 ≠ id) → upds S (frzs rs) id = S id
  blk : ∀ id ob b, S id = some ob → b ∈ fp id → (b ∈ fp' id ∧ ∃ ob', upds S (frzs rs) id = some ob') ∨ ∃ o, c'.F b = some o ∧ hp w b = some o
theorem upd_same {id : Id} {ob : OB} (h : S id = some ob) : upd S id ob = S := by
  funext x
  by_cases hx : x = id
  · subst hx; simp [upd, h]
  · simp [upd, hx]
theorem freezes : ∀ {rs : Rws} {c : Ctx} {S : Sto} {fp : Id → List Nat}, StOK c S (hp w) fp → (∀ x ∈ rs, S x.1 = some (.row x.2.1 x.2.2) ∨ S x.1 = some (.frz x.2.1 (fals x.2.2))) → ∃ c' fp', Froze c S w fp rs c' fp'
  | [], c, S, fp, ok, _ => ⟨c, fp, ok, Adv.refl _ _, fun x hx => (by cases hx), fun _ _ => rfl, fun id ob b hs hb => .inl ⟨hb, ob, hs⟩⟩
  | (id, k, xs) :: rs, c, S, fp, ok, hr => by
    -- one
    have one : ∃ c1 fp1, StOK c1 (upd S id (.frz k (fals xs))) (hp w) fp1 ∧ Adv c c1 S (upd S id (.frz k (fals xs))) ∧ (∀ i ob b, S i = some ob → b ∈ fp i → (b ∈ fp1 i ∧ ∃ ob', upd S id (.frz k (fals xs)) i = some ob') ∨ ∃ o, c1.F b = some o ∧ hp w b = some o) := by
      rcases hr _ List.mem_cons_self with h | h
      · obtain ⟨h1, h2⟩ := ok.freeze h
        refine ⟨_, _, h1, h2, fun i ob b hs hb => ?_⟩
        by_cases hi : i = id
        · subst hi
          have := ok.lt hs hb
          have hsome : ∃ o, hp w b = some o := ⟨_, Array.getElem?_eq_getElem this⟩
          obtain ⟨o, ho⟩ := hsome
          exact .inr ⟨o, by simp [addF, hb, ho], ho⟩
        · exact .inl ⟨by simpa [setF, hi] using hb, ob, by simpa [upd, hi] using hs⟩
      · simp only at h
        rw [upd_same h]
        exact ⟨c, fp, ok, Adv.refl _ _, fun i ob b hs hb => .inl ⟨hb, ob, hs⟩⟩
    obtain ⟨c1, fp1, ok1, ha1, hb1⟩ := one
    have hr' : ∀ x ∈ rs, upd S id (.frz k (fals xs)) x.1 = some (.row x.2.1 x.2.2) ∨ upd S id (.frz k (fals xs)) x.1 = some (.frz x.2.1 (fals x.2.2)) := by
      intro x hx
      by_cases hi : x.1 = id
      · have h0 := hr _ List.mem_cons_self
        have h1 := hr x (List.mem_cons_of_mem _ hx)
        rw [hi] at h1
        simp only at h0
        have : x.2.1 = k ∧ fals x.2.2 = fals xs := by
          rcases h0 with h0 | h0 <;> rcases h1 with h1 | h1 <;> rw [h0] at h1 <;> simp only [Option.some.injEq, OB.row.injEq, OB.frz.injEq, reduceCtorEq] at h1
          · exact ⟨h1.1.symm, by rw [h1.2]⟩
          · exact ⟨h1.1.symm, h1.2.symm⟩
        right
        rw [hi, this.1, this.2]
        simp [upd]
      · simpa [upd, hi] using hr x (List.mem_cons_of_mem _ hx)
    obtain ⟨c2, fp2, hf⟩ := freezes ok1 hr'
    refine ⟨c2, fp2, hf.ok, ha1.trans hf.adv, fun x hx => ?_, fun i hi => ?_, fun i ob b hs hb => ?_⟩
    · simp only [frzs, upds]
      rcases List.mem_cons.1 hx with rfl | hx
      · by_cases hm : ∃ y ∈ rs, y.1 = id
        · obtain ⟨y, hy, hyi⟩ := hm
          have := hf.at' y hy
          rw [hyi] at this
          simp only [this]
          have h1 := hr' y hy
          rw [hyi] at h1
          simp only [upd, if_true] at h1
          rcases h1 with h1 | h1
          · cases h1
          · exact h1.symm
        · have := hf.same id (fun y hy e => hm ⟨y, hy, e⟩)
          simp only [this]
          simp [upd]
      · exact hf.at' x hx
    · simp only [frzs, upds]
      rw [hf.same i (fun x hx => hi x (List.mem_cons_of_mem _ hx))]
      have := hi _ List.mem_cons_self
      simp only at this
      simp [upd, Ne.symm this]
    · simp only [frzs, upds]
      rcases hb1 i ob b hs hb with ⟨h1, ob', h2⟩ | ⟨o, h1, h2⟩
      · exact hf.blk i ob' b h2 h1
      · exact .inr ⟨o, hf.adv.F b o h1, h2⟩
theorem thaw_at : ∀ {rs : Rws} {T : Sto}, (∀ x ∈ rs, S x.1 = some (.row x.2.1 x.2.2)) → (∀ id, (∀ x ∈ rs, x.1 ≠ id) → T id = S id) → upds T (thaws rs) = S
  | [], T, _, h => by funext id; exact h id (fun x hx => by cases hx)
  | (i, k, xs) :: rs, T, hr, h => by
    simp only [thaws, upds]
    refine thaw_at (fun x hx => hr x (List.mem_cons_of_mem _ hx)) (fun id hid => ?_)
    by_cases hi : id = i
    · subst hi
      have := hr _ List.mem_cons_self
      simp only at this
      simp [upd, this]
    · simp only [upd, hi, if_false]
      refine h id (fun x hx => ?_)
      rcases List.mem_cons.1 hx with rfl | hx
      · exact fun e => hi e.symm
      · exact hid x hx
theorem rowId_row {g : Sto} {x : PV} : ∀ y ∈ rowId g x, g y.1 = some (.row y.2.1 y.2.2) := by
  intro y hy
  unfold rowId at hy
  split at hy
  · split at hy
    · simp only [List.mem_singleton] at hy; subst hy; assumption
    · cases hy
  · cases hy
theorem rowIds_row {g : Sto} : ∀ {xs : List PV}, ∀ y ∈ rowIds g xs, g y.1 = some (.row y.2.1 y.2.2)
  | [], y, hy => by cases hy
  | x :: xs, y, hy => by
    simp only [rowIds] at hy
    rcases List.mem_append.1 hy with h | h
    · exact rowId_row y h
    · exact rowIds_row y h
theorem rowIdE_row {g : Sto} {x : PV} : ∀ y ∈ rowIdE g x, g y.1 = some (.row y.2.1 y.2.2) := by
  intro y hy
  unfold rowIdE at hy
  split at hy
  · exact rowIds_row y hy
  · exact rowId_row y hy
theorem rowIdA_row {g : Sto} {byref : List Nat} : ∀ {xs : List PV} {q : Nat}, ∀ y ∈ rowIdA g byref q xs, g y.1 = some (.row y.2.1 y.2.2)
  | [], q, y, hy => by cases hy
  | x :: xs, q, y, hy => by
    simp only [rowIdA] at hy
    rcases List.mem_append.1 hy with h | h
    · split at h
      · cases h
      · exact rowIdE_row y h
    · exact rowIdA_row y h
/-! #### what the callee is handed -/
structure Snp (c : Ctx) (S : Sto) (c1 : Ctx) (S1 : Sto) (w : World) (fp1 : Id → List Nat) : Prop where
  ok : StOK c1 S1 (hp w) fp1
  adv : Adv c c1 S S1
  frz : ∀ id k xs, S id = some (.frz k xs) → S1 id = some (.frz k xs)
theorem snap_ok {c1 : Ctx} {S1 : Sto} {fp1 : Id → List Nat} {x y : PV} {vs : List Value} (hs : Snp c S c1 S1 w fp1) (hfr : ∀ z ∈ rowId S x, S1 z.1 = some (.frz z.2.1 (fals z.2.2))) (hc : cellP x = true) (r : R c S (hp w) x vs []) (e : snap S x = some y) :
    R c1 S1 (hp w) y vs [] ∧ cellP y = true := by
  unfold snap at e
  split at e
  · rename_i id m
    obtain ⟨v, rfl, _⟩ := R_one rfl r
    have hv := (own_of r).adv hs.adv
    split at e
    · rename_i k xs hS
      split at e
      · rename_i hm
        simp only [Option.some.injEq] at e
        subst e
        have h1 := hfr (id, k, xs) (by simp [rowId, hS])
        simp only at h1
        subst hm
        rw [← fals_length xs] at hv
        exact ⟨row_shr hs.ok h1 hv, rfl⟩
      · cases e
    · rename_i k xs hS
      split at e
      · rename_i hm
        simp only [Option.some.injEq] at e
        subst e
        subst hm
        exact ⟨row_shr hs.ok (hs.frz id k xs hS) hv, rfl⟩
      · cases e
    · cases e
  · simp only [Option.some.injEq] at e
    subst e
    exact ⟨R_mono hs.adv r, hc⟩
theorem snaps_ok {c1 : Ctx} {S1 : Sto} {fp1 : Id → List Nat} (hs : Snp c S c1 S1 w fp1) : ∀ {xs ys : List PV} {vs : List Value}, (∀ z ∈ rowIds S xs, S1 z.1 = some (.frz z.2.1 (fals z.2.2))) → xs.all cellP = true → Rs c S (hp w) xs vs [] → snaps S xs = some ys →
    Rs c1 S1 (hp w) ys vs [] ∧ ys.all cellP = true
  | [], ys, vs, _, _, r, e => by
    simp only [snaps, Option.some.injEq] at e
    subst e
    exact ⟨r, rfl⟩
  | x :: xs, ys, vs, hfr, hc, r, e => by
    simp only [snaps] at e
    split at e
    · rename_i y ys' h1 h2
      simp only [Option.some.injEq] at e
      subst e
      obtain ⟨v1, v2, f1, f2, rfl, hf, r1, r2⟩ := r
      have hf' := hf.symm
      simp only [List.append_eq_nil_iff] at hf'
      obtain ⟨rfl, rfl⟩ := hf'
      simp only [List.all_cons, Bool.and_eq_true] at hc
      obtain ⟨a1, a2⟩ := snap_ok hs (fun z hz => hfr z (by simp only [rowIds]; exact List.mem_append_left _ hz)) hc.1 r1 h1
      obtain ⟨b1, b2⟩ := snaps_ok hs (fun z hz => hfr z (by simp only [rowIds]; exact List.mem_append_right _ hz)) hc.2 r2 h2
      exact ⟨⟨v1, v2, [], [], rfl, rfl, a1, b1⟩, by simp [a2, b2]⟩
    · cases e
theorem snapE_ok {c1 : Ctx} {S1 : Sto} {fp1 : Id → List Nat} {x y : PV} {v : Value} (hs : Snp c S c1 S1 w fp1) (hfr : ∀ z ∈ rowIdE S x, S1 z.1 = some (.frz z.2.1 (fals z.2.2))) (r : RVal c S (hp w) x v) (e : snapE S x = some y) :
    RVal c1 S1 (hp w) y v := by
  cases x with
  | agg cs =>
    simp only [snapE] at e
    split at e
    · rename_i ys h
      simp only [Option.some.injEq] at e
      subst e
      obtain ⟨vs, rfl, hc, r⟩ := r
      obtain ⟨a1, a2⟩ := snaps_ok hs hfr hc r h
      exact ⟨vs, rfl, a2, a1⟩
    · cases e
  | own id m =>
    obtain ⟨a1, a2⟩ := snap_ok (x := .own id m) hs hfr rfl (R_of_RVal rfl (by intro h; cases h) r) (by simpa only [snapE] using e)
    exact RVal_of_R a2 a1
  | _ =>
    simp only [snapE, snap, Option.some.injEq] at e
    subst e
    exact r.adv hs.adv
theorem snapA_ok {c1 : Ctx} {S1 : Sto} {fp1 : Id → List Nat} {byref : List Nat} (hs : Snp c S c1 S1 w fp1) : ∀ {xs ys : List PV} {q : Nat} {vs : List Value}, (∀ z ∈ rowIdA S byref q xs, S1 z.1 = some (.frz z.2.1 (fals z.2.2))) → RVals c S (hp w) xs vs → snapA S byref q xs = some ys →
    RVals c1 S1 (hp w) ys vs
  | [], ys, q, vs, _, r, e => by
    simp only [snapA, Option.some.injEq] at e
    subst e
    exact r
  | x :: xs, ys, q, vs, hfr, r, e => by
    obtain ⟨v, vs', rfl, r1, r2⟩ := r
    simp only [snapA] at e
    split at e
    · rename_i y ys' h1 h2
      simp only [Option.some.injEq] at e
      subst e
      refine ⟨v, vs', rfl, ?_, snapA_ok hs (fun z hz => hfr z (by simp only [rowIdA]; exact List.mem_append_right _ hz)) r2 h2⟩
      split at h1
      · simp only [Option.some.injEq] at h1
        subst h1
        exact r1.adv hs.adv
      · rename_i hb
        exact snapE_ok hs (fun z hz => hfr z (by simp only [rowIdA]; rw [if_neg hb]; exact List.mem_append_left _ hz)) r1 h1
    · cases e
theorem RVals_append : ∀ {xs ys : List PV} {vs us : List Value}, RVals c S (hp w) xs vs → RVals c S (hp w) ys us → RVals c S (hp w) (xs ++ ys) (vs ++ us)
  | [], _, _, _, r, k => by simp only [RVals] at r; subst r; exact k
  | _ :: _, _, _, _, ⟨v, ws, rfl, r1, r2⟩, k => ⟨v, _, rfl, r1, RVals_append r2 k⟩
theorem RVals_of_cells : ∀ {xs : List PV} {vs : List Value}, xs.all cellP = true → Rs c S (hp w) xs vs [] → RVals c S (hp w) xs vs
  | [], _, _, r => r.1
  | x :: xs, _, hc, ⟨v1, v2, f1, f2, rfl, hf, r1, r2⟩ => by
    have hf' := hf.symm
    simp only [List.append_eq_nil_iff] at hf'
    obtain ⟨rfl, rfl⟩ := hf'
    simp only [List.all_cons, Bool.and_eq_true] at hc
    obtain ⟨v, rfl, _⟩ := R_one hc.1 r1
    exact ⟨v, v2, rfl, RVal_of_R hc.1 r1, RVals_of_cells hc.2 r2⟩
theorem impo1_lv {n d q : Nat} {x : PV} : ∀ y ∈ (impo1 n d x q).2.2, y.1.1 = n := by
  intro y hy
  cases x with
  | sl u k xs =>
    cases u
    · cases hy
    · simp only [impo1, List.mem_singleton] at hy; subst hy; rfl
  | bx cs => simp only [impo1, List.mem_singleton] at hy; subst hy; rfl
  | _ => cases hy
theorem impos_lv {n d : Nat} : ∀ {xs : List PV} {q : Nat}, ∀ y ∈ (impos n d xs q).2.2, y.1.1 = n
  | [], q, y, hy => by cases hy
  | x :: xs, q, y, hy => by
    simp only [impos] at hy
    rcases List.mem_append.1 hy with h | h
    · exact impo1_lv y h
    · exact impos_lv y h
theorem impoE_lv {n d q : Nat} {x : PV} : ∀ y ∈ (impoE n d x q).2.2, y.1.1 = n := by
  intro y hy
  cases x with
  | agg cs => exact impos_lv y hy
  | _ => exact impo1_lv y hy
theorem impoEs_lv {n d : Nat} : ∀ {xs : List PV} {q : Nat}, ∀ y ∈ (impoEs n d xs q).2.2, y.1.1 = n
  | [], q, y, hy => by cases hy
  | x :: xs, q, y, hy => by
    simp only [impoEs] at hy
    rcases List.mem_append.1 hy with h | h
    · exact impoE_lv y h
    · exact impoEs_lv y h
theorem impo_lv {n d : Nat} {x : PV} : ∀ y ∈ (impo n d x 0).2.2, y.1.1 = n := by
  intro y hy
  cases x with
  | tup ps => exact impoEs_lv y hy
  | _ => exact impoE_lv y hy
theorem freshAll_spec {s : St} : ∀ {ws : List (Id × OB)}, freshAll s ws = true → ∀ y ∈ ws, s.get y.1 = none
  | [], _, y, hy => by cases hy
  | (i, o) :: r, h, y, hy => by
    simp only [freshAll, Bool.and_eq_true] at h
    rcases List.mem_cons.1 hy with rfl | hy
    · simpa using h.1
    · exact freshAll_spec h.2 y hy
/-- A result lands. -/
theorem land_ok {N n : Nat} {c0 : Ctx} {S0 : Sto} {w0 : World} {s s1 s' : St} {a : Act} {d : Option Nat} {r : PV} {v : Value} {f : List Nat} (sim : Sim N c fp s a w) (ha0 : Adv c0 c S0 s.get) (hg0 : Grew w0 w) (hdom : ∀ id ob, s.get id = some ob → id.1 = n ∨ ∃ ob', S0 id = some ob') (hn : s.o.length = n)
    (hr : s1.r = s.r) (hl : s1.o.length = s.o.length) (hdom1 : ∀ id ob, s1.get id = some ob → ∃ ob', s.get id = some ob')
    (hg : Grew w w') (ok' : StOK c' s1.get (hp w') fp') (ha : Adv c c' s.get s1.get) (hf : Free c' s1.get fp' f) (hret : Ret c' s1.get (hp w') r v f) (hd : ∀ t, d = some t → t < N) (e : land s.o.length d r s1 = some s') :
    Inv N c0 S0 w0 n s' (a.put d v) w' := by
  unfold land at e
  simp only at e
  split at e
  · rename_i hfr
    simp only [Bool.and_eq_true] at hfr
    simp only [Option.some.injEq] at e
    subst e
    obtain ⟨c3, fp3, hadd, hv⟩ := impo_ok (n := s.o.length) (d := d.getD 999) ok' hret hf (freshAll_spec hfr.1) hfr.2
    have hlv : ∀ x ∈ (impo s.o.length (d.getD 999) r 0).2.2, x.1.1 ≤ s1.o.length := fun x hx => by rw [impo_lv x hx, hl]; exact Nat.le_refl _
    have hgs := get_sets _ s1 hlv
    have sim1 : Sim N c' fp' s1 a w' := ⟨fun t => by rw [hr]; exact (sim.rg t).adv ha, ok', sim.df, sim.sz⟩
    refine ⟨c3, fp3, (sim1.move hlv hadd.ok hadd.adv).put hd (by rw [hgs]; exact hv), ?_, hg0.trans hg, ?_, by rw [put_o, sets_o_length, hl]; exact hn⟩
    · rw [get_put, hgs]; exact (ha0.trans ha).trans hadd.adv
    · rw [get_put, hgs]
      intro id ob hob
      by_cases hm : ∃ x ∈ (impo s.o.length (d.getD 999) r 0).2.2, x.1 = id
      · obtain ⟨x, hx, rfl⟩ := hm
        exact .inl (by rw [impo_lv x hx]; exact hn)
      · rw [upds_fresh (fun x hx e => hm ⟨x, hx, e⟩)] at hob
        obtain ⟨ob', h⟩ := hdom1 id ob hob
        exact hdom id ob' h
  · cases e
theorem StOK.same (ok : StOK c S (hp w) fp) (h1 : ∀ id ob b, S id = some ob → b ∈ fp id → hp w' b = hp w b) (h2 : ∀ b o, c.F b = some o ∨ c.X b = some o → hp w' b = some o) : StOK c S (hp w') fp :=
  ok.step (Adv.refl _ _) (fun _ => False) (fun id ob hs _ => ⟨hs, rfl, rfl, fun b hb => ⟨h1 id ob b hs hb, ok.nF id ob hs b hb⟩⟩) (fun _ _ _ h => h.elim) h2 ok.dis
theorem hideC_X {m : Nat} {b : Nat} (h : (hideC c S fp m (hp w)).X b = none) (hlt : ∀ id ob, S id = some ob → ∀ b ∈ fp id, b < w.heap.size) : c.X b = none ∧ ∀ id ob, m ≤ id.1 → S id = some ob → b ∉ fp id := by
  simp only [hideC] at h
  have key : ¬ ∃ id ob, m ≤ id.1 ∧ S id = some ob ∧ b ∈ fp id := by
    intro hx
    rw [if_pos hx] at h
    obtain ⟨id, ob, _, hs, hb'⟩ := hx
    have := hlt id ob hs b hb'
    simp only [hp, Array.getElem?_eq_none_iff] at h
    omega
  rw [if_neg key] at h
  exact ⟨h, fun id ob hm hs hb => key ⟨id, ob, hm, hs, hb⟩⟩
/-- A call that sees no object and gives nothing shared back: what was frozen for it stands as before. -/
theorem thaw_ok {call : CallF} (hs : SoundC P call) {f : Nat} {args : List PV} {vals : List Value} {rs : Rws} {r : PV} {o' : Stack} {c1 : Ctx} {fp1 : Id → List Nat} (ok : StOK c S (hp w) fp) (hfz : Froze c S w fp rs c1 fp1) (hn : noRefs args = true)
    (hr : RVals c1 (upds S (frzs rs)) (hp w) args vals) (hns : noShare r = true) (e : call f args [] = some (r, o')) : isGo P f ∧ Calls P f vals.toArray w (Did c S w S r) := by
  have hg := hs _ _ _ _ _ e
  refine ⟨hg.1, ?_⟩
  obtain ⟨h0, h3⟩ := hg
  let S1 := upds S (frzs rs)
  have hok := hide_ok (m := 0) hfz.ok
  have hgt : gt [] = hideS S1 0 := by rw [gt_nil, hideS_zero]
  have hargs' : RVals (hideC c1 S1 fp1 0 (hp w)) (hideS S1 0) (hp w) args vals := RVals.vis (c := c1) (c' := hideC c1 S1 fp1 0 (hp w)) (S := S1) (S' := hideS S1 0) (w := w) (fun _ _ h => h) (fun id hid => ⟨by simp [hideS, hid], rfl⟩) (inLvs_noRef (m := 0) hn) hr
  refine Calls.mono (h3 (hideC c1 S1 fp1 0 (hp w)) fp1 w vals (by rw [hgt]; exact hok) (by rw [hgt]; exact hargs')) ?_
  rintro e w' ⟨_, v, c', fp', f', rfl, hgr, hok', hadv, hfree, hret⟩
  have hX : c'.X = (hideC c1 S1 fp1 0 (hp w)).X := hadv.X
  -- the blocks of the caller's objects stay
  have hblk : ∀ id ob b, S id = some ob → b ∈ fp id → (∃ o, hp w b = some o ∧ (c'.F b = some o ∨ c'.X b = some o)) := by
    intro id ob b hs hb
    rcases hfz.blk id ob b hs hb with ⟨hb1, ob', hs1⟩ | ⟨o, h1, h2⟩
    · have := hfz.ok.lt hs1 hb1
      refine ⟨_, Array.getElem?_eq_getElem this, .inr ?_⟩
      rw [hX]
      simp only [hideC]
      rw [if_pos ⟨id, ob', Nat.zero_le _, hs1, hb1⟩]
      exact Array.getElem?_eq_getElem this
    · exact ⟨o, h2, .inl (hadv.F b o h1)⟩
  have hcX : ∀ b o, c.X b = some o → c'.X b = some o := by
    intro b o h
    rw [hX]
    simp only [hideC]
    rw [if_neg]
    · rw [hfz.adv.X]; exact h
    · rintro ⟨id, ob, _, hs, hb⟩
      exact (hfz.ok.nF id ob hs b hb).no (.inr (by rw [hfz.adv.X]; exact h))
  have hok2 : StOK c S (hp w') fp := by
    refine ok.same (fun id ob b hs hb => ?_) (fun b o h => ?_)
    · obtain ⟨o, h1, h2⟩ := hblk id ob b hs hb
      rw [h1]; exact hok'.okF b o h2
    · rcases h with h | h
      · exact hok'.okF b o (.inl (hadv.F b o (hfz.adv.F b o h)))
      · exact hok'.okF b o (.inr (hcX b o h))
  refine ⟨v, c, fp, f', rfl, hgr, hok2, Adv.refl _ _, ⟨hfree.1, fun b hb => ?_⟩, Ret.noShare hns hret⟩
  obtain ⟨hu, _⟩ := hfree.2 b hb
  refine ⟨⟨?_, ?_⟩, fun id ob hs hb' => ?_⟩
  · cases hF : c.F b with
    | none => rfl
    | some o => exact hu.no (.inl (hadv.F b o (hfz.adv.F b o hF)))
  · cases hF : c.X b with
    | none => rfl
    | some o => exact hu.no (.inr (hcX b o hF))
  · obtain ⟨o, _, h⟩ := hblk id ob b hs hb'
    exact hu.no h
/-- How the model comes to a call. -/
theorem run_call {o : Oper} {ρ : Operand → Value} {fo : Operand} {args : Array Operand} {ts : Array TypeId} {f : Nat} {caps : Array Value} (ho : o.op = .call ⟨.value fo, args, ts⟩) (hf : ρ fo = .func (.func f) #[] caps) (hgo : isGo P f) :
    (execOp ρ o).run P w = .ok (.enter f (args.map ρ ++ caps)) w := by
  obtain ⟨fn, h1, h2, h3⟩ := hgo
  have h4 : fn.body.isNone = false := by cases hb : fn.body <;> simp [hb] at h2 ⊢
  have h5 : ¬ fn.body = none := fun h => by rw [h] at h2; cases h2
  simp [execOp, ho, resolve, hf, Deferred.ofValue, invoke, callFunc, h1, h3, h4, h5]
def okCall : Op → Bool
  | .call ⟨.value _, _, _⟩ => true
  | _ => false
theorem Inv.call {call : CallF} (hs : SoundC P call) {N n : Nat} {c0 : Ctx} {S0 : Sto} {w0 : World} {s s' : St} {a : Act} {o : Oper} {ai : AI} {byref : List Nat} {leaky : Bool} {K : Act → World → Prop} {Q : Exit → Act → World → Prop}
    (inv : Inv N c0 S0 w0 n s a w) (hop : ai.op = .call byref leaky) (hk : okCall o.op = true) (hx : opdsOK ai.xs (opArgs o.op) = true) (hd : ai.d = o.dst) (hdN : ∀ t, ai.d = some t → t < N) (e : stepGo call s ai = some s') (hK : ∀ a' w', Inv N c0 S0 w0 n s' a' w' → K a' w') : o.wp P a w K Q := by
  obtain ⟨c, fp, sim, ha0, hg0, hdom, hn⟩ := inv
  unfold okCall at hk
  split at hk
  · rename_i fo args ts ho
    have hr := opds_RVals sim hx
    unfold stepGo at e
    rw [hop] at e
    simp only at e
    rw [ho] at hr
    simp only [opArgs, List.map_cons] at hr
    obtain ⟨x, xs, hxs, hrf, hra⟩ := RVals_cons_inv hr
    rw [hxs] at e
    unfold stepCall at e
    split at e
    · rename_i f caps xs' hcons
      simp only [List.cons.injEq] at hcons
      obtain ⟨rfl, rfl⟩ := hcons
      obtain ⟨_, cv, hfv, hcc, hcr⟩ := hrf
      have hfv : a.eval fo = .func (.func f) #[] cv.toArray := by simpa using hfv
      have hvals : ∀ (l : List Value), (args.map a.eval ++ cv.toArray) = ((args.toList.map a.eval) ++ cv).toArray := fun _ => by apply Array.ext'; simp
      have finish : isGo P f → Calls P f ((args.toList.map a.eval) ++ cv).toArray w (fun e w' => ∃ v, e = .returned v ∧ Inv N c0 S0 w0 n s' (a.put ai.d v) w') → o.wp P a w K Q := by
        intro hgo hc
        unfold Oper.wp
        rw [run_call ho hfv hgo, hvals []]
        simp only [Oper.upon]
        refine Calls.mono hc ?_
        rintro e w' ⟨v, rfl, hi⟩
        rw [hd] at hi
        exact hK _ _ hi
      split at e
      · cases e
      · rename_i ys hsnap
        split at e
        · -- nothing is frozen
          rename_i hrs
          split at e
          · rename_i r s1 hcb
            have hsn : Snp c s.get c s.get w fp := ⟨sim.st, Adv.refl _ _, fun _ _ _ h => h⟩
            have hys := snapA_ok hsn (fun z hz => by rw [hrs] at hz; cases hz) hra hsnap
            have hall := RVals_append hys (RVals_of_cells hcc hcr)
            obtain ⟨g1, _, g5, g6⟩ := callBy_ok hs sim.st hall hcb
            refine finish g5 (Calls.mono g6 ?_)
            rintro e' w' ⟨⟨g2, g3⟩, v, c', fp', f', rfl, k1, k2, k3, k4, k5⟩
            exact ⟨v, rfl, land_ok sim ha0 hg0 hdom hn g1 g2 g3 k1 k2 k3 k4 k5 hdN e⟩
          · cases e
        · rename_i rs hne
          have hrow := fun z (hz : z ∈ rowIdA s.get byref 0 xs) => rowIdA_row z hz
          obtain ⟨c1, fp1, hfz⟩ := freezes (rs := rowIdA s.get byref 0 xs) sim.st (fun z hz => .inl (hrow z hz))
          have hle : ∀ z ∈ frzs (rowIdA s.get byref 0 xs), z.1.1 ≤ s.o.length := by
            have : ∀ {rs : Rws}, (∀ x ∈ rs, ∃ ob, s.get x.1 = some ob) → ∀ z ∈ frzs rs, z.1.1 ≤ s.o.length := by
              intro rs
              induction rs with
              | nil => intro _ z hz; cases hz
              | cons y rs ih =>
                obtain ⟨i, k, l⟩ := y
                intro h z hz
                simp only [frzs] at hz
                rcases List.mem_cons.1 hz with rfl | hz
                · obtain ⟨ob, h'⟩ := h _ List.mem_cons_self
                  exact get_lvl h'
                · exact ih (fun x hx => h x (List.mem_cons_of_mem _ hx)) z hz
            exact this (fun x hx => ⟨_, hrow x hx⟩)
          have hgs := get_sets _ s hle
          have hsn : Snp c s.get c1 (upds s.get (frzs (rowIdA s.get byref 0 xs))) w fp1 := by
            refine ⟨hfz.ok, hfz.adv, fun id k l h => ?_⟩
            rw [hfz.same id (fun x hx e => by have := hrow x hx; rw [e, h] at this; cases this)]; exact h
          have hys := snapA_ok hsn (fun z hz => hfz.at' z hz) hra hsnap
          have hcr1 := Rs.adv hfz.adv _ _ _ (fun b hb => by cases hb) hcr (h' := hp w)
          have hall := RVals_append hys (RVals_of_cells hcc hcr1)
          split at e
          · rename_i r s1 hcb
            split at e
            · -- it stays frozen
              rw [← hgs] at hall
              have ok2 : StOK c1 (s.sets (frzs (rowIdA s.get byref 0 xs))).get (hp w) fp1 := by rw [hgs]; exact hfz.ok
              have hcb' : callBy call (s.sets (frzs (rowIdA s.get byref 0 xs))).o.length (s.sets (frzs (rowIdA s.get byref 0 xs))) f (ys ++ caps) = some (r, s1) := by rw [sets_o_length]; exact hcb
              obtain ⟨g1, _, g5, g6⟩ := callBy_ok hs ok2 hall hcb'
              refine finish g5 (Calls.mono g6 ?_)
              rintro e' w' ⟨⟨g2, g3⟩, v, c', fp', f', rfl, k1, k2, k3, k4, k5⟩
              rw [hgs] at k3
              refine ⟨v, rfl, land_ok sim ha0 hg0 hdom hn (g1.trans (sets_r _ _)) (g2.trans (sets_o_length _ _)) (fun id ob h => ?_) k1 k2 (hfz.adv.trans k3) k4 k5 hdN e⟩
              obtain ⟨ob', h'⟩ := g3 id ob h
              rw [hgs] at h'
              by_cases hm : ∃ x ∈ rowIdA s.get byref 0 xs, x.1 = id
              · obtain ⟨x, hx, rfl⟩ := hm
                exact ⟨_, hrow x hx⟩
              · rw [hfz.same id (fun x hx e => hm ⟨x, hx, e⟩)] at h'
                exact ⟨ob', h'⟩
            · split at e
              · rename_i hc2
                simp only [Bool.and_eq_true] at hc2
                have hcb' : ∃ o', call f (ys ++ caps) [] = some (r, o') ∧ s1 = s.sets (frzs (rowIdA s.get byref 0 xs)) := by
                  unfold callBy at hcb
                  rw [if_pos hc2.1] at hcb
                  split at hcb
                  · rename_i r' o' hc
                    simp only [Option.some.injEq, Prod.mk.injEq] at hcb
                    exact ⟨o', by rw [hc, hcb.1], hcb.2.symm⟩
                  · cases hcb
                obtain ⟨o', hcall, rfl⟩ := hcb'
                obtain ⟨g5, g6⟩ := thaw_ok hs sim.st hfz hc2.1 hall hc2.2 hcall
                have hth : ((s.sets (frzs (rowIdA s.get byref 0 xs))).sets (thaws (rowIdA s.get byref 0 xs))).get = s.get := by
                  rw [get_sets, hgs]
                  · exact thaw_at hrow (fun id hid => hfz.same id hid)
                  · rw [sets_o_length]
                    have : ∀ {rs : Rws}, (∀ x ∈ rs, ∃ ob, s.get x.1 = some ob) → ∀ z ∈ thaws rs, z.1.1 ≤ s.o.length := by
                      intro rs
                      induction rs with
                      | nil => intro _ z hz; cases hz
                      | cons y rs ih =>
                        obtain ⟨i, k, l⟩ := y
                        intro h z hz
                        simp only [thaws] at hz
                        rcases List.mem_cons.1 hz with rfl | hz
                        · obtain ⟨ob, h'⟩ := h _ List.mem_cons_self
                          exact get_lvl h'
                        · exact ih (fun x hx => h x (List.mem_cons_of_mem _ hx)) z hz
                    exact this (fun x hx => ⟨_, hrow x hx⟩)
                refine finish g5 (Calls.mono g6 ?_)
                rintro e' w' ⟨v, c', fp', f', rfl, k1, k2, k3, k4, k5⟩
                rw [← hth] at k2 k4 k5
                have k3' : Adv c c' s.get ((s.sets (frzs (rowIdA s.get byref 0 xs))).sets (thaws (rowIdA s.get byref 0 xs))).get := by rw [hth]; exact k3
                exact ⟨v, rfl, land_ok sim ha0 hg0 hdom hn ((sets_r _ _).trans (sets_r _ _)) ((sets_o_length _ _).trans (sets_o_length _ _)) (fun id ob h => by rw [hth] at h; exact ⟨ob, h⟩) k1 k2 k3' k4 k5 hdN e⟩
              · cases e
          · cases e
    · cases e
  · cases hk
end
end Go.Am
end
section
/- Regions in their text's order; what is kept behind a region. -/
set_option linter.unusedSimpArgs false
set_option linter.unusedVariables false
namespace Go.Am
open Go.RowKit
def okDst (N : Nat) : Option Nat → Bool
  | none => true
  | some d => decide (d < N)
theorem okDst_spec {N : Nat} {d : Option Nat} (h : okDst N d = true) : ∀ t, d = some t → t < N := by
  rintro t rfl; simpa [okDst] using h
def okAI (P : Program) (N : Nat) (ops : Array Oper) (ai : AI) (o : Oper) : Bool :=
  ai.d == o.dst && okDst N ai.d && okG ops ai.g o.guard && opdsOK ai.xs (opArgs o.op) && (if isCall ai.op then okCall o.op else !isChk ai.op && okOp P ai.op o.op)
def okAIs (P : Program) (N : Nat) (ops : Array Oper) : List AI → List Oper → Bool
  | [], [] => true
  | a :: as, o :: os => okAI P N ops a o && okAIs P N ops as os
  | _, _ => false
section
variable {P : Program} {N n : Nat} {c0 : Ctx} {S0 : Sto} {w0 w : World} {s s' : St} {a : Act} {call : CallF}
/-- One operation. -/
theorem ai_ok (hs : SoundC P call) (hlv : Lv n S0) {ops : Array Oper} {ai : AI} {o : Oper} {K : Act → World → Prop} {Q : Exit → Act → World → Prop} (inv : Inv N c0 S0 w0 n s a w) (hk : okAI P N ops ai o = true) (e : stepI call s ai = some s')
    (hK : ∀ a' w', Inv N c0 S0 w0 n s' a' w' → K a' w') : if Region.wanted o (yielded ops a.tmps) = true then o.wp P a w K Q else K (a.put o.dst undef) w := by
  simp only [okAI, Bool.and_eq_true] at hk
  obtain ⟨⟨⟨⟨h1, h2⟩, h3⟩, h4⟩, h5⟩ := hk
  have h1 := eq_of_beq h1
  have h2 := okDst_spec h2
  rcases guard_ok inv h3 h1 h2 e with ⟨hw, hgo⟩ | ⟨hw, hi⟩
  · rw [if_pos hw]
    by_cases hc : isCall ai.op = true
    · rw [if_pos hc] at h5
      obtain ⟨b, l, hop⟩ : ∃ b l, ai.op = .call b l := by
        cases h : ai.op <;> rw [h] at hc <;> first | (simp [isCall] at hc; done) | exact ⟨_, _, rfl⟩
      exact Inv.call hs inv hop h5 h4 h1 h2 hgo hK
    · rw [if_neg hc] at h5
      simp only [Bool.and_eq_true, Bool.not_eq_true'] at h5
      exact go_ok inv hlv h5.2 h5.1 (by simpa using hc) h4 h1 h2 hgo hK
  · rw [if_neg (by simp [hw])]
    exact hK _ _ hi
theorem list_ok (hs : SoundC P call) (hlv : Lv n S0) {ops : Array Oper} {Q : Exit → Act → World → Prop} : ∀ {as : List AI} {os : List Oper} {s : St} {a : Act} {w : World}, okAIs P N ops as os = true → steps call s as = some s' → Inv N c0 S0 w0 n s a w →
    (∀ a' w', Inv N c0 S0 w0 n s' a' w' → Q .normal a' w') → wpList P ops Q os a w
  | [], os, s, a, w, hk, e, inv, hQ => by
    cases os with
    | nil =>
      simp only [steps, Option.some.injEq] at e
      subst e
      exact hQ _ _ inv
    | cons _ _ => simp [okAIs] at hk
  | ai :: as, os, s, a, w, hk, e, inv, hQ => by
    cases os with
    | nil => simp [okAIs] at hk
    | cons o os =>
      simp only [okAIs, Bool.and_eq_true] at hk
      simp only [steps] at e
      split at e
      · rename_i s1 h1
        refine wpList_step fun K hK => ai_ok hs hlv inv hk.1 h1 (fun a' w' inv' => hK _ _ ?_)
        exact list_ok hs hlv hk.2 e inv' hQ
      · cases e
/-! #### what is kept -/
section
variable {c c' : Ctx} {S S' : Sto} {h h' : Hp} {g : Nat → Bool}
mutual
theorem R.kn (hF : ∀ b o, c.F b = some o → c'.F b = some o) (hS : ∀ id : Id, (id.1 = n → g id.2 = true) → S' id = S id ∧ c'.L id = c.L id) : ∀ (x : PV) (vs : List Value) (fp : List Nat), known g n x = true → (∀ b ∈ fp, h' b = h b) → R c S h x vs fp → R c' S' h' x vs fp
  | .undef, _, _, _, _, r => r
  | .sc _, _, _, _, _, r => r
  | .nils, _, _, _, _, r => r
  | .sl u k xs, vs, fp, _, hf, r => by
    have ht : tree (.sl u k xs) = true := by
      cases u
      · exact r.1
      · exact r.1
    exact R.data hF _ vs fp ht hf r
  | .own id m, vs, fp, t, _, r => by
    obtain ⟨e1, e2⟩ := hS id (by simpa [known, Decidable.imp_iff_not_or] using t)
    obtain ⟨h0, v, h1, h2, h3⟩ := r
    exact ⟨h0, v, h1, h2, by unfold OwnOK at h3 ⊢; rw [e1, e2]; exact h3⟩
  | .ref id m i j, vs, fp, t, _, r => by
    obtain ⟨e1, e2⟩ := hS id (by simpa [known, Decidable.imp_iff_not_or] using t)
    obtain ⟨h0, v, h1, h2, h3⟩ := r
    exact ⟨h0, v, h1, h2, by unfold RefOK at h3 ⊢; rw [e1, e2]; exact h3⟩
  | .iref cs j, vs, fp, _, _, r => by
    obtain ⟨h0, g, off, cur, e, fr, ws, h1, h2, h3, h4, h5, h6⟩ := r
    exact ⟨h0, g, off, cur, e, fr, ws, h1, hF _ _ h2, h3, h4, Rs.data hF cs ws [] h4 (fun b hb => by cases hb) h5, h6⟩
  | .mp id, vs, fp, t, _, r => by
    obtain ⟨e1, e2⟩ := hS id (by simpa [known, Decidable.imp_iff_not_or] using t)
    obtain ⟨h0, v, h1, h2, h3⟩ := r
    exact ⟨h0, v, h1, h2, by unfold MapOK at h3 ⊢; rw [e1, e2]; exact h3⟩
  | .clo f caps, vs, fp, t, _, r => by
    simp only [known] at t
    obtain ⟨h0, ws, h1, h2, h3⟩ := r
    exact ⟨h0, ws, h1, h2, Rs.kn hF hS caps ws [] t (fun b hb => by cases hb) h3⟩
  | .agg cs, vs, fp, t, hf, r => by
    simp only [known] at t
    exact ⟨r.1, Rs.kn hF hS cs vs fp t hf r.2⟩
  | .tup _, _, _, _, _, r => r.elim
  | .bx _, _, _, _, _, r => r.elim
  | .non, _, _, _, _, r => r.elim
theorem Rs.kn (hF : ∀ b o, c.F b = some o → c'.F b = some o) (hS : ∀ id : Id, (id.1 = n → g id.2 = true) → S' id = S id ∧ c'.L id = c.L id) : ∀ (xs : List PV) (vs : List Value) (fp : List Nat), knowns g n xs = true → (∀ b ∈ fp, h' b = h b) → Rs c S h xs vs fp → Rs c' S' h' xs vs fp
  | [], _, _, _, _, r => r
  | x :: xs, vs, fp, t, hf, r => by
    simp only [knowns, Bool.and_eq_true] at t
    obtain ⟨v1, v2, f1, f2, h1, h2, h3, h4⟩ := r
    exact ⟨v1, v2, f1, f2, h1, h2, R.kn hF hS x v1 f1 t.1 (fun b hb => hf b (by rw [h2]; exact List.mem_append_left _ hb)) h3,
      Rs.kn hF hS xs v2 f2 t.2 (fun b hb => hf b (by rw [h2]; exact List.mem_append_right _ hb)) h4⟩
end
theorem RV1.kn {x : PV} {v : Value} (hF : ∀ b o, c.F b = some o → c'.F b = some o) (hS : ∀ id : Id, (id.1 = n → g id.2 = true) → S' id = S id ∧ c'.L id = c.L id) (t : known g n x = true) (r : RV1 c S h x v) : RV1 c' S' h' x v := by
  cases x with
  | undef => trivial
  | non => exact r
  | agg cs => obtain ⟨vs, e, r⟩ := r; exact ⟨vs, e, R.kn hF hS _ vs [] t (fun b hb => by cases hb) r⟩
  | _ => exact R.kn (h := h) hF hS _ _ [] t (fun b hb => by cases hb) r
theorem RV1s.kn (hF : ∀ b o, c.F b = some o → c'.F b = some o) (hS : ∀ id : Id, (id.1 = n → g id.2 = true) → S' id = S id ∧ c'.L id = c.L id) : ∀ {xs : List PV} {vs : List Value}, knowns g n xs = true → RV1s c S h xs vs → RV1s c' S' h' xs vs
  | [], _, _, r => r
  | x :: xs, _, t, ⟨v, ws, e, r1, r2⟩ => by
    simp only [knowns, Bool.and_eq_true] at t
    exact ⟨v, ws, e, r1.kn hF hS t.1, RV1s.kn hF hS t.2 r2⟩
theorem RVal.kn {x : PV} {v : Value} (hF : ∀ b o, c.F b = some o → c'.F b = some o) (hS : ∀ id : Id, (id.1 = n → g id.2 = true) → S' id = S id ∧ c'.L id = c.L id) (t : known g n x = true) (r : RVal c S h x v) : RVal c' S' h' x v := by
  cases x with
  | tup ps => obtain ⟨vs, e, r⟩ := r; exact ⟨vs, e, RV1s.kn hF hS t r⟩
  | _ => simp only [RVal] at r ⊢; exact RV1.kn hF hS t r
mutual
theorem known_up {m : Nat} (hm : m < n) : ∀ {x : PV}, upTo m x = true → known g n x = true
  | .undef, _ | .sc _, _ | .nils, _ | .sl _ _ _, _ | .iref _ _, _ | .non, _ => rfl
  | .own _ _, t | .ref _ _ _ _, t | .mp _, t => by
    simp only [upTo, decide_eq_true_eq] at t
    simp only [known, Bool.or_eq_true, Bool.not_eq_true', decide_eq_false_iff_not]
    left; omega
  | .clo _ cs, t | .agg cs, t | .tup cs, t | .bx cs, t => by simp only [upTo] at t; simp only [known]; exact knowns_up hm t
theorem knowns_up {m : Nat} (hm : m < n) : ∀ {xs : List PV}, upTos m xs = true → knowns g n xs = true
  | [], _ => rfl
  | x :: xs, t => by
    simp only [upTos, Bool.and_eq_true] at t
    simp only [knowns, Bool.and_eq_true]
    exact ⟨known_up hm t.1, knowns_up hm t.2⟩
end
end
theorem getO_filterMap (l : Objs) : ∀ (objs : List Nat) (t : Nat), getO (objs.filterMap fun t => (getO l t).map (t, ·)) t = if t ∈ objs then getO l t else none
  | [], t => rfl
  | u :: objs, t => by
    simp only [List.filterMap_cons]
    cases h : getO l u with
    | none =>
      simp only [Option.map_none]
      rw [getO_filterMap l objs t]
      by_cases ht : t ∈ objs
      · simp [ht]
      · by_cases hu : t = u
        · subst hu; simp [h]
        · simp [ht, hu]
    | some ob =>
      simp only [Option.map_some, getO]
      by_cases hu : u = t
      · subst hu; simp [h]
      · simp only [hu, if_false]
        rw [getO_filterMap l objs t]
        by_cases ht : t ∈ objs
        · simp [ht]
        · simp [ht, Ne.symm hu]
theorem getR_map (f : Nat → PV) : ∀ (live : List Nat) (t : Nat), getR (live.map fun t => (t, f t)) t = if t ∈ live then f t else .undef
  | [], t => rfl
  | u :: live, t => by
    simp only [List.map_cons, getR]
    by_cases h : u = t
    · subst h; simp
    · simp only [h, if_false]
      rw [getR_map f live t]
      simp [Ne.symm h]
theorem getO_mem : ∀ {l : Objs} {t : Nat} {ob : OB}, getO l t = some ob → (t, ob) ∈ l
  | [], _, _, h => by cases h
  | (k, o) :: l, t, ob, h => by
    simp only [getO] at h
    split at h
    · rename_i hk
      simp only [Option.some.injEq] at h
      subst hk h
      exact List.mem_cons_self
    · exact List.mem_cons_of_mem _ (getO_mem h)
theorem keep_get (s : St) (lv ob : List Nat) (id : Id) : (s.keep lv ob).get id = if id.1 = s.o.length ∧ id.2 ∉ ob then none else s.get id := by
  simp only [St.get, St.keep]
  by_cases h : id.1 = s.o.length
  · simp only [h, if_true, true_and]
    rw [getO_filterMap]
    by_cases h2 : id.2 ∈ ob <;> simp [h2]
  · simp [h]
/-- Fewer objects. -/
theorem StOK.less {c : Ctx} {S S' : Sto} {fp : Id → List Nat} (ok : StOK c S (hp w) fp) (hS : ∀ id ob, S' id = some ob → S id = some ob) (hro : ∀ id ob, S' id = some ob → RO c S' (hp w) id ob (fp id)) : StOK c S' (hp w) fp :=
  ⟨hro, fun id ob h => ok.nd id ob (hS id ob h), fun id id' ob ob' h h' => ok.dj id id' ob ob' (hS id ob h) (hS id' ob' h'), fun id ob h => ok.nF id ob (hS id ob h), ok.okF, ok.dis⟩
theorem RO.kn {c : Ctx} {S S' : Sto} {id : Id} {ob : OB} {fp : List Nat} (hb : ∀ cs, ob = .box cs → ∀ vs, Rs c S (hp w) cs vs [] → Rs c S' (hp w) cs vs []) (r : RO c S (hp w) id ob fp) : RO c S' (hp w) id ob fp := by
  cases ob with
  | box cs =>
    obtain ⟨cur, e, h1, h2, h3, h4, h5⟩ := r
    exact ⟨cur, e, h1, h2, hb cs rfl _ h3, h4, h5⟩
  | row k xs =>
    obtain ⟨t, l, r⟩ := r
    refine ⟨t, l, ?_⟩
    rcases r with r | ⟨fq, h1, ⟨cur, e, ws, g1, g2, g3, g4, g5, g6⟩, h3⟩
    · exact .inl r
    · exact .inr ⟨fq, h1, ⟨cur, e, ws, g1, g2, g3, g4, Rs.data (fun _ _ h => h) xs ws fq t (fun _ _ => rfl) g5, g6⟩, h3⟩
  | frz k xs =>
    obtain ⟨t, l, e, r⟩ := r
    refine ⟨t, l, e, ?_⟩
    rcases r with r | ⟨cur, et, ws, h1, h2, h3, h4⟩
    · exact .inl r
    · exact .inr ⟨cur, et, ws, h1, h2, Rs.data (fun _ _ h => h) xs ws [] t (fun _ _ => rfl) h3, h4⟩
  | dead => exact r
  | map es => exact r
theorem keep_ok {lv ob : List Nat} {ex : EX} (hlv : Lv n S0) (inv : Inv N c0 S0 w0 n s a w) (e : fin (s.keep lv ob) = some (ex, s')) : ex = .normal ∧ Inv N c0 S0 w0 n s' a w := by
  unfold fin at e
  split at e
  · rename_i hok
    simp only [Option.some.injEq, Prod.mk.injEq] at e
    obtain ⟨rfl, rfl⟩ := e
    refine ⟨rfl, ?_⟩
    obtain ⟨c, fp, sim, ha, hg, hdom, hn⟩ := inv
    have hget : ∀ id, (s.keep lv ob).get id = if id.1 = s.o.length ∧ id.2 ∉ ob then none else s.get id := keep_get s lv ob
    have hsub : ∀ id x, (s.keep lv ob).get id = some x → s.get id = some x := by
      intro id x h
      rw [hget] at h
      split at h
      · cases h
      · exact h
    have hlen : (s.keep lv ob).o.length = s.o.length := rfl
    -- names that are known lead to what is kept
    have hS : ∀ id : Id, (id.1 = s.o.length → (getO (s.keep lv ob).l id.2).isSome = true) → (s.keep lv ob).get id = s.get id ∧ c.L id = c.L id := by
      intro id h
      refine ⟨?_, rfl⟩
      rw [hget]
      split
      · rename_i h2
        have h3 := h h2.1
        simp only [St.keep] at h3
        rw [getO_filterMap, if_neg h2.2] at h3
        cases h3
      · rfl
    have hst : StOK c (s.keep lv ob).get (hp w) fp := by
      refine sim.st.less hsub (fun id x h => ?_)
      refine RO.kn (fun cs hcs vs r => ?_) (sim.st.ob id x (hsub id x h))
      subst hcs
      by_cases hid : id.1 = s.o.length
      · have hmem : (id.2, OB.box cs) ∈ (s.keep lv ob).l := by
          simp only [St.get] at h
          rw [if_pos (by rw [hlen]; exact hid)] at h
          exact getO_mem h
        have := List.all_eq_true.1 hok _ hmem
        simp only at this
        rw [hlen] at this
        exact Rs.kn (fun _ _ h => h) hS cs vs [] this (fun _ _ => rfl) r
      · have hlt : id.1 < s.o.length := by have := get_lvl (hsub id _ h); omega
        obtain ⟨cur, et, _, _, _, _, h5⟩ := sim.st.ob id _ (hsub id _ h)
        exact Rs.kn (g := fun t => (getO (s.keep lv ob).l t).isSome) (fun _ _ h => h) hS cs vs [] (knowns_up hlt h5) (fun _ _ => rfl) r
    refine ⟨c, fp, ⟨fun t => ?_, hst, sim.df, sim.sz⟩, ⟨ha.F, ha.X, fun id x h => ?_⟩, hg, fun id x h => hdom id x (hsub id x h), hn⟩
    · simp only [St.keep]
      rw [getR_map (fun t => if known (fun t => (getO (ob.filterMap fun t => (getO s.l t).map (t, ·)) t).isSome) s.o.length (getR s.r t) then getR s.r t else .undef)]
      split
      · split
        · rename_i hkn
          exact RVal.kn (c := c) (S := s.get) (h := hp w) (fun _ _ h => h) hS hkn (sim.rg t)
        · trivial
      · trivial
    · obtain ⟨x', h1, h2⟩ := ha.st id x h
      refine ⟨x', ?_, h2⟩
      have := hlv id x h
      rw [hget, if_neg (by omega)]
      exact h1
  · cases e
end
end Go.Am
end
section
/- Regions whose order is drawn. -/
set_option linter.unusedSimpArgs false
set_option linter.unusedVariables false
namespace Go.Am
open Go.RowKit
/-! #### a step depends on its operands and the objects alone -/
section
variable {call : CallF}
def St.wr (s : St) (r : Regs) : St := { s with r := r }
theorem wr_get (s : St) (r : Regs) : (s.wr r).get = s.get := rfl
theorem wr_set (s : St) (r : Regs) (id : Id) (ob : OB) : (s.wr r).set id ob = (s.set id ob).wr r := by
  unfold St.set St.wr; split <;> rfl
theorem wr_sets (r : Regs) : ∀ (ws : List (Id × OB)) (s : St), (s.wr r).sets ws = (s.sets ws).wr r
  | [], _ => rfl
  | (id, ob) :: ws, s => by simp only [St.sets]; rw [wr_set, wr_sets r ws]
theorem callBy_wr {n : Nat} {s s1 : St} {f : Nat} {zs : List PV} {v : PV} (r : Regs) (e : callBy call n s f zs = some (v, s1)) : callBy call n (s.wr r) f zs = some (v, s1.wr r) := by
  unfold callBy at e ⊢
  split at e
  · rename_i h
    rw [if_pos h]
    split at e
    · rename_i q o' hc
      simp only [Option.some.injEq, Prod.mk.injEq] at e
      obtain ⟨rfl, rfl⟩ := e
      first | rfl | rw [hc]
    · cases e
  · rename_i h
    rw [if_neg h]
    split at e
    · rename_i h2
      rw [if_pos h2]
      split at e
      · rename_i q o' hc
        simp only [Option.some.injEq, Prod.mk.injEq] at e
        obtain ⟨rfl, rfl⟩ := e
        have hc' : call f zs ((s.wr r).o ++ [(s.wr r).l]) = some (q, o') := hc
        rw [hc']; rfl
      · cases e
    · rename_i h2
      rw [if_neg h2]
      split at e
      · rename_i q o' hc
        simp only [Option.some.injEq, Prod.mk.injEq] at e
        obtain ⟨rfl, rfl⟩ := e
        have hc' : call f zs ((s.wr r).o ++ [[]]) = some (q, o') := hc
        rw [hc']; rfl
      · cases e
theorem callBy_r {n : Nat} {s s1 : St} {f : Nat} {zs : List PV} {v : PV} (e : callBy call n s f zs = some (v, s1)) : s1.r = s.r := by
  unfold callBy at e
  repeat' split at e
  all_goals first
    | (cases e; done)
    | (simp only [Option.some.injEq, Prod.mk.injEq] at e; obtain ⟨_, rfl⟩ := e; rfl)
theorem freshAll_wr (r : Regs) (s : St) : ∀ ws : List (Id × OB), freshAll (s.wr r) ws = freshAll s ws
  | [] => rfl
  | (id, ob) :: ws => by simp only [freshAll, wr_get, freshAll_wr r s ws]
theorem land_wr {n : Nat} {d : Option Nat} {v : PV} {s s1 : St} (r : Regs) (e : land n d v s = some s1) : ∃ y, s1.r = (s.put d y).r ∧ land n d v (s.wr r) = some (s1.wr ((s.wr r).put d y).r) := by
  unfold land at e ⊢
  simp only at e ⊢
  rw [freshAll_wr]
  split at e
  · rename_i h
    simp only [Option.some.injEq] at e
    subst e
    refine ⟨(impo n (d.getD 999) v 0).1, ?_, ?_⟩
    · cases d with
      | none => simp only [St.put, sets_r]
      | some t => simp only [St.put, sets_r]
    · rw [if_pos h, wr_sets]
      cases d <;> rfl
  · cases e
theorem stepGo_wr {s s1 : St} {ai : AI} (r : Regs) (hx : ∀ x ∈ ai.xs, (s.wr r).ev x = s.ev x) (e : stepGo call s ai = some s1) :
    ∃ y, s1.r = (s.put ai.d y).r ∧ stepGo call (s.wr r) ai = some (s1.wr ((s.wr r).put ai.d y).r) := by
  have hm : ai.xs.map (s.wr r).ev = ai.xs.map s.ev := List.map_congr_left hx
  unfold stepGo at e ⊢
  split at e
  · rename_i byref leaky hop
    rw [hm]
    unfold stepCall at e ⊢
    split at e
    · rename_i f caps xs hxs
      simp only [wr_get] at e ⊢
      split at e
      · cases e
      · rename_i ys hys
        try simp only [hys]
        split at e
        · rename_i hrs
          try simp only [hrs]
          split at e
          · rename_i q s2 hc
            have := callBy_wr r hc
            have hlen : (s.wr r).o.length = s.o.length := rfl
            rw [hlen, this]
            dsimp only
            obtain ⟨y, h1, h2⟩ := land_wr r e
            refine ⟨y, ?_, ?_⟩
            · rw [h1]; cases hd : ai.d <;> simp only [St.put, callBy_r hc]
            · rw [h2]
              congr 2
              cases hd : ai.d <;> rfl
          · cases e
        · rename_i rs hne
          try simp only [hne]
          split at e
          · rename_i q s2 hc
            have hc' := callBy_wr r hc
            rw [← wr_sets] at hc'
            have hlen : (s.wr r).o.length = s.o.length := rfl
            rw [hlen, hc']
            dsimp only
            have hr2 : s2.r = s.r := (callBy_r hc).trans (sets_r _ _)
            split at e
            · rename_i hl
              simp only [hl, if_true]
              obtain ⟨y, h1, h2⟩ := land_wr r e
              refine ⟨y, ?_, ?_⟩
              · rw [h1]; cases hd : ai.d <;> simp only [St.put, hr2]
              · rw [h2]
                congr 2
                cases hd : ai.d <;> rfl
            · rename_i hl
              simp only [hl]
              split at e
              · rename_i hn
                simp only [hn, if_true]
                obtain ⟨y, h1, h2⟩ := land_wr r e
                refine ⟨y, ?_, ?_⟩
                · rw [h1]; cases hd : ai.d <;> simp only [St.put, sets_r, hr2]
                · have : (s2.wr r).sets (thaws (rowIdA s.get byref 0 xs)) = (s2.sets (thaws (rowIdA s.get byref 0 xs))).wr r := wr_sets _ _ _
                  simp only [Bool.false_eq_true, if_false]
                  rw [this, h2]
                  congr 2
                  cases hd : ai.d <;> rfl
              · cases e
          · cases e
    · cases e
  · rename_i hop
    rw [hm]
    simp only [wr_get]
    split at e
    · rename_i v ws hc
      simp only [Option.some.injEq] at e
      subst e
      refine ⟨v, ?_, ?_⟩
      · cases hd : ai.d <;> simp only [St.put, sets_r]
      · have hlen : (s.wr r).o.length = s.o.length := rfl
        rw [hlen, hc]
        dsimp only
        rw [wr_sets]
        cases hd : ai.d <;> rfl
    · cases e
end
end Go.Am
end
section
/- Regions whose order is drawn: every order comes to what the machine's order comes to. -/
set_option linter.unusedSimpArgs false
set_option linter.unusedVariables false
namespace Go.Am
open Go.RowKit
/-- Yields a value alone. -/
def isRd : K → Bool
  | .move | .pick | .build _ _ | .load _ _ | .bin _ | .beq | .bne | .not | .neg | .faddr _ | .iaddr _ | .iarr _ _ | .idx _ _ _ | .istr | .fld _ _ | .ext _ | .len | .lens | .mkfunc _ | .conv _ | .min2 | .max2 | .nck | .isnil => true
  | _ => false
set_option maxHeartbeats 1000000 in
theorem rd_core1 {n d d' : Nat} {g : Id → Option OB} {k : K} {ps : List PV} {y : PV} {ws : List (Id × OB)} (h : isRd k = true) (e : core1 n d g k ps = some (y, ws)) : ws = [] ∧ core1 n d' g k ps = some (y, ws) := by
  unfold core1 at e
  split at e <;> first
    | (simp [isRd] at h; done)
    | ((repeat' split at e) <;> first
        | (cases e; done)
        | (simp only [Option.some.injEq, Prod.mk.injEq] at e
           obtain ⟨rfl, rfl⟩ := e
           refine ⟨rfl, ?_⟩
           first
             | (simp only [core1, *]; done)
             | (simp only [core1, *]; simp; done)
             | (simp_all [core1]; done)
             | (simp_all [core1]; have hh := ‹_ ∧ _ ∧ ib _ _ = true›; rw [← hh.2.1]; exact hh.2.2)))
/-- Looks at no object. -/
def isPure : K → Bool
  | .move | .pick | .build _ _ | .bin _ | .beq | .bne | .not | .neg | .idx _ _ _ | .istr | .fld _ _ | .ext _ | .lens | .mkfunc _ | .conv _ | .min2 | .max2 | .isnil => true
  | _ => false
set_option maxHeartbeats 1000000 in
theorem pure_core1 {n n' d d' : Nat} {g g' : Id → Option OB} {k : K} {ps : List PV} {y : PV} {ws : List (Id × OB)} (h : isPure k = true) (e : core1 n d g k ps = some (y, ws)) : core1 n' d' g' k ps = some (y, ws) := by
  unfold core1 at e
  split at e <;> first
    | (simp [isPure] at h; done)
    | ((repeat' split at e) <;> first
        | (cases e; done)
        | (simp only [Option.some.injEq, Prod.mk.injEq] at e
           obtain ⟨rfl, rfl⟩ := e
           first
             | (simp only [core1, *]; done)
             | (simp only [core1, *]; simp; done)
             | (simp_all [core1]; done)))
theorem chk_spec {n d : Nat} {g : Id → Option OB} {k : K} {ps : List PV} {y : PV} {ws : List (Id × OB)} (e : core n d g (.chk k) ps = some (y, ws)) : ws = [] ∧ ∃ x xs, ps = x :: xs ∧ core1 n d g k xs = some (x, []) := by
  unfold core at e
  split at e
  · rename_i op x xs hk
    injection hk with hk
    subst hk
    split at e
    · rename_i h
      simp only [Option.some.injEq, Prod.mk.injEq] at e
      exact ⟨e.2.symm, x, xs, rfl, h⟩
    · cases e
  · rename_i op xs hn
    unfold core1 at e
    split at e <;> first | (cases e; done) | (rename_i h; cases h; done) | (rename_i h _; cases h; done) | (rename_i h _ _; cases h; done) | skip
    all_goals (exfalso; first | exact K.noConfusion (by assumption) | skip)
/-! #### the form of a drawn region -/
def opdTmps : List Opd → List Nat
  | [] => []
  | .t n :: r => n :: opdTmps r
  | _ :: r => opdTmps r
def dstOf (os : Array Oper) (i : Nat) : Option Nat := (os[i]?).bind (·.dst)
def afterOf (os : Array Oper) (i : Nat) : List Nat := match os[i]? with
  | some o => (o.after.toList.filter fun e => Region.binds .any e).map (·.on)
  | none => []
def anc (os : Array Oper) : Nat → Nat → Nat → Bool
  | 0, _, _ => false
  | k + 1, i, j => (afterOf os i).any fun q => q == j || anc os k q j
def opK (as : List AI) (p : Nat) : K := match as[p]? with | some ai => ai.op | none => .move
def opX (as : List AI) (p : Nat) : List Opd := match as[p]? with | some ai => ai.xs | none => []
def isEff (as : List AI) (p : Nat) : Bool := !isChk (opK as p) && !isRd (opK as p)
/-- What the machine's order of a drawn region must be: `ps` tells where each operation stands. -/
structure Plan (P : Program) (N : Nat) (os : Array Oper) (as : List AI) (ps : Nat → Nat) : Prop where
  op : ∀ i o, os[i]? = some o → ∃ ai, as[ps i]? = some ai ∧ okAI P N os ai o = true ∧ ai.g = none ∧ isChk ai.op = false
  pos : ∀ p ai, as[p]? = some ai → (isChk ai.op = true ∧ ai.d = none ∧ ai.g = none) ∨ ∃ i o, os[i]? = some o ∧ ps i = p
  inj : ∀ i j, i < os.size → j < os.size → ps i = ps j → i = j
  dst : ∀ i j t, dstOf os i = some t → dstOf os j = some t → i = j
  dep : ∀ i j t, dstOf os j = some t → t ∈ opdTmps (opX as (ps i)) → i < os.size → anc os os.size i j = true
  top : ∀ i q, i < os.size → q ∈ afterOf os i → q < os.size ∧ ps q < ps i
  aft : ∀ i e, i < os.size → e < os.size → isEff as (ps e) = true → ps e < ps i → anc os os.size i e = true
  fwd : ∀ i e, i < os.size → e < os.size → isEff as (ps e) = true → isEff as (ps i) = false → ps i < ps e → anc os os.size e i = true ∨
    (∃ r a b t, as[r]? = some a ∧ as[ps i]? = some b ∧ b.d = some t ∧ ps e < r ∧ (∀ q, ps e < q → q < r → isEff as q = false) ∧ a.op = .chk b.op ∧ a.xs = .t t :: b.xs) ∨ isPure (opK as (ps i)) = true
section
variable {P : Program} {N n : Nat} {os : Array Oper} {as : List AI} {ps : Nat → Nat} {call : CallF}
theorem anc_pos (pl : Plan P N os as ps) : ∀ (k i j : Nat), i < os.size → anc os k i j = true → j < os.size ∧ ps j < ps i
  | 0, _, _, _, h => by simp [anc] at h
  | k + 1, i, j, hi, h => by
    simp only [anc, List.any_eq_true, Bool.or_eq_true, beq_iff_eq] at h
    obtain ⟨q, hq, h⟩ := h
    obtain ⟨h1, h2⟩ := pl.top i q hi hq
    rcases h with rfl | h
    · exact ⟨h1, h2⟩
    · obtain ⟨h3, h4⟩ := anc_pos pl k q j h1 h
      exact ⟨h3, by omega⟩
/-- What is listed holds what it stands behind. -/
def Clo (os : Array Oper) (listed : Array Bool) : Prop := ∀ i, i < os.size → listed.getD i false = true → ∀ q ∈ afterOf os i, listed.getD q false = true
theorem anc_listed (pl : Plan P N os as ps) {listed : Array Bool} (hc : Clo os listed) : ∀ (k i j : Nat), i < os.size → (∀ q ∈ afterOf os i, listed.getD q false = true) → anc os k i j = true → listed.getD j false = true
  | 0, _, _, _, _, h => by simp [anc] at h
  | k + 1, i, j, hi, ha, h => by
    simp only [anc, List.any_eq_true, Bool.or_eq_true, beq_iff_eq] at h
    obtain ⟨q, hq, h⟩ := h
    rcases h with rfl | h
    · exact ha _ hq
    · have hq1 := (pl.top i q hi hq).1
      exact anc_listed pl hc k q j hq1 (hc q hq1 (ha q hq)) h
/-- The states that the machine goes through. -/
theorem trace : ∀ {as : List AI} {s s' : St}, steps call s as = some s' → ∃ st : Nat → St, st 0 = s ∧ st as.length = s' ∧ ∀ p ai, as[p]? = some ai → stepI call (st p) ai = some (st (p + 1))
  | [], s, s', e => by
    simp only [steps, Option.some.injEq] at e
    exact ⟨fun _ => s, rfl, e, fun p ai h => by simp at h⟩
  | a :: as, s, s', e => by
    simp only [steps] at e
    split at e
    · rename_i s1 h1
      obtain ⟨st, h2, h3, h4⟩ := trace e
      refine ⟨fun p => match p with | 0 => s | q + 1 => st q, rfl, h3, fun p ai h => ?_⟩
      cases p with
      | zero =>
        simp only [List.getElem?_cons_zero, Option.some.injEq] at h
        subst h
        simpa [h2] using h1
      | succ q => exact h4 q ai (by simpa using h)
    · cases e
theorem stepI_none {s : St} {ai : AI} (h : ai.g = none) : stepI call s ai = stepGo call s ai := by rw [stepI_eq, h]
theorem wr_self (s : St) : s.wr s.r = s := rfl
theorem go_shape {s s1 : St} {ai : AI} (e : stepGo call s ai = some s1) : ∃ y, s1.r = (s.put ai.d y).r := by
  obtain ⟨y, h, _⟩ := stepGo_wr (call := call) s.r (fun _ _ => rfl) e
  exact ⟨y, h⟩
theorem rd_shape {s s1 : St} {ai : AI} (h : isRd ai.op = true ∨ isChk ai.op = true) (e : stepGo call s ai = some s1) : s1.l = s.l ∧ s1.o = s.o := by
  unfold stepGo at e
  split at e
  · rename_i b l hop
    rw [hop] at h
    simp [isRd, isChk] at h
  · split at e
    · rename_i v ws hc
      simp only [Option.some.injEq] at e
      have hws : ws = [] := by
        rcases h with h | h
        · have hck : isChk ai.op = false := by cases hk : ai.op <;> rw [hk] at h <;> first | rfl | (simp [isRd] at h)
          rw [core_core1 hck] at hc
          exact (rd_core1 (d' := 0) h hc).1
        · obtain ⟨k, hk⟩ : ∃ k, ai.op = .chk k := by
            cases hk : ai.op <;> rw [hk] at h <;> first | (simp [isChk] at h; done) | exact ⟨_, rfl⟩
          rw [hk] at hc
          exact (chk_spec hc).1
      subst hws
      subst e
      cases hd : ai.d <;> exact ⟨rfl, rfl⟩
    · cases e
end
end Go.Am
end
section
/- Every drawn order comes to the machine's end. -/
set_option linter.unusedSimpArgs false
set_option linter.unusedVariables false
namespace Go.Am
open Go.RowKit
theorem countP_lt {α : Type} {p p' : α → Bool} (h : ∀ x, p' x = true → p x = true) : ∀ {l : List α} {i : α}, i ∈ l → p i = true → p' i = false → l.countP p' < l.countP p
  | [], _, hi, _, _ => by cases hi
  | a :: l, i, hi, h1, h2 => by
    simp only [List.countP_cons]
    have hle : l.countP p' ≤ l.countP p := List.countP_mono_left fun x _ hx => h x hx
    rcases List.mem_cons.1 hi with rfl | hi
    · simp only [h1, h2, if_true]
      simp; omega
    · have := countP_lt h hi h1 h2
      by_cases ha : p' a = true
      · simp [ha, h a ha]; omega
      · simp [ha]; omega
theorem last_eff {f : Nat → Bool} (p : Nat) : ∀ q, (∃ r, p ≤ r ∧ r < q ∧ f r = true) → ∃ r, p ≤ r ∧ r < q ∧ f r = true ∧ ∀ r', r < r' → r' < q → f r' = false
  | 0, ⟨r, _, h, _⟩ => by omega
  | q + 1, ⟨r, h1, h2, h3⟩ => by
    by_cases hq : f q = true
    · exact ⟨q, by omega, by omega, hq, fun r' h4 h5 => by omega⟩
    · have : r ≠ q := fun e => hq (e ▸ h3)
      obtain ⟨r0, g1, g2, g3, g4⟩ := last_eff p q ⟨r, h1, by omega, h3⟩
      refine ⟨r0, g1, by omega, g3, fun r' h4 h5 => ?_⟩
      by_cases h : r' = q
      · subst h; simpa using hq
      · exact g4 r' h4 (by omega)
theorem min_pos {ps : Nat → Nat} {f : Nat → Prop} : ∀ (m : Nat), (∃ i, f i ∧ ps i ≤ m) → ∃ i, f i ∧ ∀ j, f j → ps i ≤ ps j
  | 0, ⟨i, h1, h2⟩ => ⟨i, h1, fun j _ => by omega⟩
  | m + 1, ⟨i, h1, h2⟩ => by
    by_cases h : ∃ j, f j ∧ ps j ≤ m
    · exact min_pos m h
    · exact ⟨i, h1, fun j hj => by
        rcases Nat.lt_or_ge m (ps j) with h3 | h3
        · omega
        · exact absurd ⟨j, hj, h3⟩ h⟩
def regsL (os : Array Oper) (f : Nat → PV) (listed : Array Bool) (r : Regs) : Regs := ((List.range os.size).filterMap fun i => if listed.getD i false then (dstOf os i).map fun t => (t, f t) else none) ++ r
theorem getR_pairs {f : Nat → PV} {r : Regs} {t : Nat} : ∀ {A : Regs}, (∀ x ∈ A, x.2 = f x.1) → getR (A ++ r) t = if t ∈ A.map (·.1) then f t else getR r t
  | [], _ => by simp
  | (u, v) :: A, h => by
    have hu := h _ List.mem_cons_self
    simp only at hu
    simp only [List.cons_append, getR, List.map_cons, List.mem_cons]
    by_cases e : u = t
    · subst e; simp [hu]
    · simp only [e, if_false, Ne.symm e, false_or]
      exact getR_pairs fun x hx => h x (List.mem_cons_of_mem _ hx)
open Classical in
theorem getR_regsL {os : Array Oper} {f : Nat → PV} {listed : Array Bool} {r : Regs} {t : Nat} : getR (regsL os f listed r) t = if ∃ i, listed.getD i false = true ∧ dstOf os i = some t then f t else getR r t := by
  unfold regsL
  rw [getR_pairs]
  · have : (t ∈ ((List.range os.size).filterMap fun i => if listed.getD i false then (dstOf os i).map fun t => (t, f t) else none).map (·.1)) ↔ ∃ i, listed.getD i false = true ∧ dstOf os i = some t := by
      simp only [List.mem_map, List.mem_filterMap, List.mem_range]
      constructor
      · rintro ⟨⟨u, v⟩, ⟨i, hi, h⟩, rfl⟩
        split at h
        · rename_i hl
          obtain ⟨t', h1, h2⟩ := Option.map_eq_some_iff.1 h
          injection h2 with h2 h3
          subst h2
          exact ⟨i, hl, h1⟩
        · cases h
      · rintro ⟨i, hl, h⟩
        have hi : i < os.size := by
          unfold dstOf at h
          cases ho : os[i]? with
          | none => simp [ho] at h
          | some o => exact (Array.getElem?_eq_some_iff.1 ho).1
        exact ⟨(t, f t), ⟨i, hi, by simp [hl, h]⟩, rfl⟩
    by_cases h : ∃ i, listed.getD i false = true ∧ dstOf os i = some t
    · rw [if_pos (this.2 h), if_pos h]
    · rw [if_neg (fun h' => h (this.1 h')), if_neg h]
  · intro x hx
    obtain ⟨i, _, h⟩ := List.mem_filterMap.1 hx
    split at h
    · obtain ⟨t', _, rfl⟩ := Option.map_eq_some_iff.1 h; rfl
    · cases h
section
variable {P : Program} {N n : Nat} {c0 : Ctx} {S0 : Sto} {w0 w : World} {os : Array Oper} {as : List AI} {ps : Nat → Nat} {call : CallF} {s s' : St} {a : Act}
theorem Inv.ext {s1 s2 : St} (inv : Inv N c0 S0 w0 n s1 a w) (hr : ∀ t, getR s2.r t = getR s1.r t) (hl : s2.l = s1.l) (ho : s2.o = s1.o) : Inv N c0 S0 w0 n s2 a w := by
  obtain ⟨c, fp, sim, ha, hg, hd, hn⟩ := inv
  have hget : s2.get = s1.get := by funext i; simp only [St.get, hl, ho]
  exact ⟨c, fp, ⟨fun t => by rw [hr t, hget]; exact sim.rg t, by rw [hget]; exact sim.st, sim.df, sim.sz⟩, by rw [hget]; exact ha, hg, by rw [hget]; exact hd, by rw [ho]; exact hn⟩
/-- A machine's run of the region. -/
structure Tr (call : CallF) (as : List AI) (s s' : St) (st : Nat → St) : Prop where
  z : st 0 = s
  e : st as.length = s'
  go : ∀ p ai, as[p]? = some ai → stepI call (st p) ai = some (st (p + 1))
variable {st : Nat → St}
theorem dst_lt {i t : Nat} (h : dstOf os i = some t) : i < os.size := by
  unfold dstOf at h
  cases ho : os[i]? with
  | none => simp [ho] at h
  | some o => exact (Array.getElem?_eq_some_iff.1 ho).1
theorem op_at (pl : Plan P N os as ps) {i : Nat} (hi : i < os.size) : ∃ o ai, os[i]? = some o ∧ as[ps i]? = some ai ∧ okAI P N os ai o = true ∧ ai.g = none ∧ isChk ai.op = false ∧ ai.d = dstOf os i ∧ opK as (ps i) = ai.op ∧ opX as (ps i) = ai.xs := by
  have ho : os[i]? = some os[i] := Array.getElem?_eq_getElem hi
  obtain ⟨ai, h1, h2, h3, h4⟩ := pl.op i _ ho
  refine ⟨_, ai, ho, h1, h2, h3, h4, ?_, by simp [opK, h1], by simp [opX, h1]⟩
  simp only [okAI, Bool.and_eq_true] at h2
  have := eq_of_beq h2.1.1.1.1
  simp only [dstOf, ho]
  exact this
theorem pos_le (pl : Plan P N os as ps) {i : Nat} (hi : i < os.size) : ps i < as.length := by
  obtain ⟨o, ai, _, h, _⟩ := op_at pl hi
  exact (List.getElem?_eq_some_iff.1 h).1
/-- Registers between two places. -/
theorem regs_between (pl : Plan P N os as ps) (tr : Tr call as s s' st) {t p : Nat} : ∀ {p' : Nat}, p ≤ p' → p' ≤ as.length → (∀ i, dstOf os i = some t → ¬ (p ≤ ps i ∧ ps i < p')) → getR (st p').r t = getR (st p).r t := by
  intro p'
  induction p' with
  | zero => intro h _ _; rw [Nat.le_zero.1 h]
  | succ q ih =>
    intro h1 h2 h3
    by_cases hq : p = q + 1
    · rw [hq]
    · have ih' := ih (by omega) (by omega) (fun i hi hh => h3 i hi ⟨hh.1, by omega⟩)
      obtain ⟨ai, hai⟩ : ∃ ai, as[q]? = some ai := ⟨_, List.getElem?_eq_getElem (by omega)⟩
      have hstep := tr.go q ai hai
      have hg : ai.g = none ∧ ai.d ≠ some t := by
        rcases pl.pos q ai hai with ⟨_, h, hg⟩ | ⟨i, o, ho, hpi⟩
        · exact ⟨hg, by rw [h]; simp⟩
        · obtain ⟨o', ai', _, g1, _, g2, _, g3, _⟩ := op_at pl (Array.getElem?_eq_some_iff.1 ho).1
          rw [hpi, hai] at g1
          simp only [Option.some.injEq] at g1
          subst g1
          refine ⟨g2, fun e => ?_⟩
          rw [g3] at e
          exact h3 i e ⟨by omega, by omega⟩
      rw [stepI_none hg.1] at hstep
      obtain ⟨y, hy⟩ := go_shape hstep
      rw [hy, ← ih']
      cases hd : ai.d with
      | none => rfl
      | some u =>
        simp only [St.put, getR]
        rw [if_neg]
        intro e; subst e; exact hg.2 hd
theorem regs_done (pl : Plan P N os as ps) (tr : Tr call as s s' st) {i t p : Nat} (hi : dstOf os i = some t) (h1 : ps i < p) (h2 : p ≤ as.length) : getR (st p).r t = getR s'.r t := by
  rw [← tr.e]
  refine (regs_between pl tr h2 (Nat.le_refl _) (fun j hj hh => ?_)).symm
  have := pl.dst i j t hi hj
  subst this
  omega
theorem regs_none (pl : Plan P N os as ps) (tr : Tr call as s s' st) {t p : Nat} (h : ∀ i, dstOf os i ≠ some t) (h2 : p ≤ as.length) : getR (st p).r t = getR s.r t := by
  rw [← tr.z]
  exact regs_between pl tr (Nat.zero_le _) h2 (fun i hi => absurd hi (h i))
/-- Objects between two places. -/
theorem objs_between (pl : Plan P N os as ps) (tr : Tr call as s s' st) {p : Nat} : ∀ {p' : Nat}, p ≤ p' → p' ≤ as.length → (∀ q, p ≤ q → q < p' → isEff as q = false) → (st p').l = (st p).l ∧ (st p').o = (st p).o := by
  intro p'
  induction p' with
  | zero => intro h _ _; rw [Nat.le_zero.1 h]; exact ⟨rfl, rfl⟩
  | succ q ih =>
    intro h1 h2 h3
    by_cases hq : p = q + 1
    · rw [hq]; exact ⟨rfl, rfl⟩
    · obtain ⟨i1, i2⟩ := ih (by omega) (by omega) (fun r hr hr' => h3 r hr (by omega))
      obtain ⟨ai, hai⟩ : ∃ ai, as[q]? = some ai := ⟨_, List.getElem?_eq_getElem (by omega)⟩
      have hstep := tr.go q ai hai
      have hg : ai.g = none := by
        rcases pl.pos q ai hai with ⟨_, h, hg⟩ | ⟨i, o, ho, hpi⟩
        · exact hg
        · obtain ⟨o', ai', _, g1, _, g2, _⟩ := op_at pl (Array.getElem?_eq_some_iff.1 ho).1
          rw [hpi, hai] at g1
          simp only [Option.some.injEq] at g1
          subst g1
          exact g2
      rw [stepI_none hg] at hstep
      have he := h3 q (by omega) (by omega)
      simp only [isEff, opK, hai, Bool.and_eq_false_iff, Bool.not_eq_false'] at he
      obtain ⟨j1, j2⟩ := rd_shape he.symm hstep
      exact ⟨j1.trans i1, j2.trans i2⟩
end
end Go.Am
end
section
/- A drawn region is sound. -/
set_option linter.unusedSimpArgs false
set_option linter.unusedVariables false
namespace Go.Am
open Go.RowKit
section
variable {P : Program} {N n : Nat} {c0 : Ctx} {S0 : Sto} {w0 w : World} {os : Array Oper} {as : List AI} {ps : Nat → Nat} {call : CallF} {s s' : St} {a : Act} {st : Nat → St}
theorem get_ext {s1 s2 : St} (hl : s1.l = s2.l) (ho : s1.o = s2.o) : s1.get = s2.get := by
  obtain ⟨r1, l1, o1⟩ := s1
  obtain ⟨r2, l2, o2⟩ := s2
  simp only at hl ho
  subst hl ho
  rfl
/-- Where an order stands: what is listed, and up to where the effects have come. -/
structure J (os : Array Oper) (as : List AI) (ps : Nat → Nat) (listed : Array Bool) (q : Nat) : Prop where
  size : listed.size = os.size
  clo : Clo os listed
  eff : ∀ e, e < os.size → isEff as (ps e) = true → (listed.getD e false = true ↔ ps e < q)
  le : q ≤ as.length
def stL (os : Array Oper) (s s' : St) (st : Nat → St) (listed : Array Bool) (q : Nat) : St := ⟨regsL os (getR s'.r) listed s.r, (st q).l, (st q).o⟩
theorem mem_opdTmps {t : Nat} : ∀ {xs : List Opd}, Opd.t t ∈ xs → t ∈ opdTmps xs
  | [], h => by cases h
  | .t n :: r, h => by
    simp only [opdTmps]
    rcases List.mem_cons.1 h with h | h
    · injection h with h; subst h; exact List.mem_cons_self
    · exact List.mem_cons_of_mem _ (mem_opdTmps h)
  | .k v :: r, h => by
    simp only [opdTmps]
    rcases List.mem_cons.1 h with h | h
    · cases h
    · exact mem_opdTmps h
  | .f v :: r, h => by
    simp only [opdTmps]
    rcases List.mem_cons.1 h with h | h
    · cases h
    · exact mem_opdTmps h
/-- Operands read the same at every place behind what they stand behind. -/
theorem ops_agree (pl : Plan P N os as ps) (tr : Tr call as s s' st) {listed : Array Bool} (hc : Clo os listed) {i p : Nat} (hi : i < os.size) (ha : ∀ q ∈ afterOf os i, listed.getD q false = true) (h1 : ps i ≤ p) (h2 : p ≤ as.length) {t : Nat} (ht : t ∈ opdTmps (opX as (ps i))) :
    getR (regsL os (getR s'.r) listed s.r) t = getR (st p).r t := by
  rw [getR_regsL]
  by_cases h : ∃ j, dstOf os j = some t
  · obtain ⟨j, hj⟩ := h
    have han := pl.dep i j t hj ht hi
    have hl := anc_listed pl hc _ i j hi ha han
    have hp := (anc_pos pl _ i j hi han).2
    rw [if_pos ⟨j, hl, hj⟩]
    exact (regs_done pl tr hj (by omega) h2).symm
  · rw [if_neg (fun ⟨j, _, hj⟩ => h ⟨j, hj⟩)]
    exact (regs_none pl tr (fun j hj => h ⟨j, hj⟩) h2).symm
theorem listed_set {listed : Array Bool} {i j : Nat} (hs : i < listed.size) : (listed.setIfInBounds i true).getD j false = true ↔ j = i ∨ listed.getD j false = true := by
  by_cases h : i = j
  · subst h; simp [hs]
  · rw [getD_set_ne false h]; simp [Ne.symm h]
/-- One more operation, whichever is ready. -/
theorem one_more (pl : Plan P N os as ps) (tr : Tr call as s s' st) {listed : Array Bool} {q i : Nat} {ai : AI} (j : J os as ps listed q) (hi : i < os.size) (hai : as[ps i]? = some ai) (hun : listed.getD i false = false) (ha : ∀ r ∈ afterOf os i, listed.getD r false = true) :
    ∃ s2 q', stepI call (stL os s s' st listed q) ai = some s2 ∧ J os as ps (listed.setIfInBounds i true) q' ∧ (∀ t, getR (stL os s s' st (listed.setIfInBounds i true) q').r t = getR s2.r t) ∧ (st q').l = s2.l ∧ (st q').o = s2.o := by
  obtain ⟨o, ai', ho, h1, hok, hg, hck, hd, hK, hX⟩ := op_at pl hi
  rw [hai] at h1
  simp only [Option.some.injEq] at h1
  subst h1
  have hpl := pos_le pl hi
  have hilt : i < listed.size := by rw [j.size]; exact hi
  have hstep := tr.go (ps i) ai hai
  rw [stepI_none hg] at hstep ⊢
  -- the listing after
  have hclo : Clo os (listed.setIfInBounds i true) := by
    intro k hk hl r hr
    rcases (listed_set hilt).1 hl with rfl | hl
    · exact (listed_set hilt).2 (.inr (ha r hr))
    · exact (listed_set hilt).2 (.inr (j.clo k hk hl r hr))
  -- no unlisted effect stands ahead
  have hahead : ∀ r, q ≤ r → r < ps i → isEff as r = false := by
    intro r hr1 hr2
    cases he : isEff as r with
    | false => rfl
    | true =>
      obtain ⟨a', ha'⟩ : ∃ a', as[r]? = some a' := ⟨_, List.getElem?_eq_getElem (by omega)⟩
      rcases pl.pos r a' ha' with ⟨h, _⟩ | ⟨e, oe, hoe, rfl⟩
      · simp [isEff, opK, ha', h] at he
      · have hes : e < os.size := (Array.getElem?_eq_some_iff.1 hoe).1
        have := anc_listed pl j.clo _ i e hi ha (pl.aft i e hi hes he hr2)
        have := (j.eff e hes he).1 this
        omega
  -- the value that it yields
  have hval : ∀ {r1 : Regs} {y : PV}, (st (ps i + 1)).r = ((st (ps i)).put ai.d y).r → ∀ t, ai.d = some t → y = getR s'.r t := by
    intro r1 y hy t ht
    have := regs_done pl tr (i := i) (t := t) (by rw [← hd]; exact ht) (Nat.lt_succ_self _) hpl
    rw [hy, ht] at this
    simpa [St.put, getR] using this
  have hregs : ∀ {s2 : St} {y : PV}, s2.r = ((stL os s s' st listed q).put ai.d y).r → (∀ t, ai.d = some t → y = getR s'.r t) → ∀ q' t, getR (stL os s s' st (listed.setIfInBounds i true) q').r t = getR s2.r t := by
    intro s2 y hs2 hy q' t
    rw [hs2]
    simp only [stL, getR_regsL]
    by_cases hdt : ai.d = some t
    · rw [if_pos ⟨i, (listed_set hilt).2 (.inl rfl), by rw [← hd]; exact hdt⟩]
      rw [← hy t hdt, hdt]
      simp [St.put, getR]
    · have e1 : (∃ k, (listed.setIfInBounds i true).getD k false = true ∧ dstOf os k = some t) ↔ ∃ k, listed.getD k false = true ∧ dstOf os k = some t := by
        constructor
        · rintro ⟨k, h1, h2⟩
          rcases (listed_set hilt).1 h1 with rfl | h1
          · rw [← hd] at h2; exact absurd h2 hdt
          · exact ⟨k, h1, h2⟩
        · rintro ⟨k, h1, h2⟩
          exact ⟨k, (listed_set hilt).2 (.inr h1), h2⟩
      have e2 : getR (St.put ⟨regsL os (getR s'.r) listed s.r, (st q).l, (st q).o⟩ ai.d y).r t = getR (regsL os (getR s'.r) listed s.r) t := by
        cases hdd : ai.d with
        | none => rfl
        | some u =>
          simp only [St.put, getR]
          rw [if_neg (fun e => hdt (by rw [hdd, e]))]
      rw [e2, getR_regsL]
      by_cases h : ∃ k, listed.getD k false = true ∧ dstOf os k = some t
      · rw [if_pos h, if_pos (e1.2 h)]
      · rw [if_neg h, if_neg (fun h' => h (e1.1 h'))]
  -- as the machine does it
  have direct : (st (ps i)).l = (st q).l ∧ (st (ps i)).o = (st q).o → ∃ s2, stepGo call (stL os s s' st listed q) ai = some s2 ∧ (∀ q' t, getR (stL os s s' st (listed.setIfInBounds i true) q').r t = getR s2.r t) ∧ (st (ps i + 1)).l = s2.l ∧ (st (ps i + 1)).o = s2.o := by
    rintro ⟨hl, hoo⟩
    have heq : stL os s s' st listed q = (st (ps i)).wr (regsL os (getR s'.r) listed s.r) := by
      simp only [stL, St.wr, hl, hoo]
    have hxs : ∀ x ∈ ai.xs, ((st (ps i)).wr (regsL os (getR s'.r) listed s.r)).ev x = (st (ps i)).ev x := by
      intro x hx
      cases x with
      | t u =>
        simp only [St.ev, St.wr]
        exact ops_agree pl tr j.clo hi ha (Nat.le_refl _) (by omega) (by rw [hX]; exact mem_opdTmps hx)
      | k v => rfl
      | f v => rfl
    obtain ⟨y, hy1, hy2⟩ := stepGo_wr (call := call) (regsL os (getR s'.r) listed s.r) hxs hstep
    rw [heq]
    refine ⟨_, hy2, ?_, rfl, rfl⟩
    refine hregs (s2 := (st (ps i + 1)).wr (((st (ps i)).wr (regsL os (getR s'.r) listed s.r)).put ai.d y).r) (y := y) ?_ (hval (r1 := []) hy1)
    cases hdd : ai.d <;> rfl
  by_cases hE : isEff as (ps i) = true
  · -- an effect
    have hqi : q ≤ ps i := by
      rcases Nat.lt_or_ge (ps i) q with h | h
      · have := (j.eff i hi hE).2 h; rw [hun] at this; cases this
      · exact h
    obtain ⟨s2, g1, g2, g3, g4⟩ := direct (objs_between pl tr hqi (by omega) (fun r h1 h2 => hahead r h1 h2))
    refine ⟨s2, ps i + 1, g1, ⟨by simp [j.size], hclo, fun e he hee => ?_, by omega⟩, fun t => g2 _ t, g3, g4⟩
    rw [listed_set hilt, j.eff e he hee]
    constructor
    · rintro (rfl | h)
      · omega
      · omega
    · intro h
      by_cases hei : e = i
      · exact .inl hei
      · right
        have hne : ps e ≠ ps i := fun h' => hei (pl.inj e i he hi h')
        rcases Nat.lt_or_ge (ps e) q with h' | h'
        · exact h'
        · have := hahead (ps e) h' (by omega); rw [hee] at this; cases this
  · -- a reader
    have hE' : isEff as (ps i) = false := by simpa using hE
    have hrd : isRd ai.op = true := by simpa [isEff, hK, hck] using hE'
    have hJ : J os as ps (listed.setIfInBounds i true) q := by
      refine ⟨by simp [j.size], hclo, fun e he hee => ?_, j.le⟩
      rw [listed_set hilt, j.eff e he hee]
      constructor
      · rintro (rfl | h)
        · rw [hee] at hE'; cases hE'
        · exact h
      · exact .inr
    have hstable : (st (ps i + 1)).l = (st (ps i)).l ∧ (st (ps i + 1)).o = (st (ps i)).o := rd_shape (.inl hrd) hstep
    by_cases hq : (st (ps i)).l = (st q).l ∧ (st (ps i)).o = (st q).o
    · obtain ⟨s2, g1, g2, g3, g4⟩ := direct hq
      exact ⟨s2, q, g1, hJ, fun t => g2 _ t, by rw [← g3, hstable.1, hq.1], by rw [← g4, hstable.2, hq.2]⟩
    · -- an effect has come between: the check behind it tells
      have hlt : ps i < q := by
        rcases Nat.lt_or_ge (ps i) q with h | h
        · exact h
        · exact absurd (objs_between pl tr h (by omega) (fun r h1 h2 => hahead r h1 h2)) hq
      have hex : ∃ r, ps i ≤ r ∧ r < q ∧ isEff as r = true := by
        refine Classical.byContradiction fun hn => hq ?_
        obtain ⟨k1, k2⟩ := objs_between pl tr (Nat.le_of_lt hlt) j.le (fun r h1 h2 => by
          cases he : isEff as r with
          | false => rfl
          | true => exact absurd ⟨r, h1, h2, he⟩ hn)
        exact ⟨k1.symm, k2.symm⟩
      obtain ⟨r0, e1, e2, e3, e4⟩ := last_eff (ps i) q hex
      have hle := j.le
      obtain ⟨a', ha'⟩ : ∃ a', as[r0]? = some a' := ⟨_, List.getElem?_eq_getElem (by omega)⟩
      rcases pl.pos r0 a' ha' with ⟨h, _⟩ | ⟨e, oe, hoe, rfl⟩
      · simp [isEff, opK, ha', h] at e3
      have hes : e < os.size := (Array.getElem?_eq_some_iff.1 hoe).1
      have hle' : listed.getD e false = true := (j.eff e hes e3).2 e2
      have hne : ps i ≠ ps e := fun h => by rw [h, e3] at hE'; cases hE'
      have hcore3 : ∃ y, core1 (st q).o.length (ai.d.getD 999) (stL os s s' st listed q).get ai.op (ai.xs.map (stL os s s' st listed q).ev) = some (y, []) ∧ ∀ t, ai.d = some t → y = getR s'.r t := by
        rcases pl.fwd i e hi hes e3 hE' (by omega) with hanc | ⟨r, ca, cb, t, hca, hcb, hcd, hr1, hr2, hop, hxs⟩ | hpure
        · have := anc_listed pl j.clo _ e i hes (fun k hk => j.clo e hes hle' k hk) hanc
          rw [hun] at this; cases this
        · rw [hai] at hcb
          simp only [Option.some.injEq] at hcb
          subst hcb
          have hrlen : r < as.length := (List.getElem?_eq_some_iff.1 hca).1
          have hchk := tr.go r ca hca
          have hcg : ca.g = none := by
            rcases pl.pos r ca hca with ⟨_, _, hg⟩ | ⟨k, ok, hok', rfl⟩
            · exact hg
            · obtain ⟨_, a2, _, q1, _, q2, _⟩ := op_at pl (Array.getElem?_eq_some_iff.1 hok').1
              rw [hca] at q1
              simp only [Option.some.injEq] at q1
              subst q1; exact q2
          rw [stepI_none hcg] at hchk
          -- what the check has shown
          have hcore : ∃ d, core1 (st r).o.length d (st r).get ai.op (ai.xs.map (st r).ev) = some (getR (st r).r t, []) := by
            unfold stepGo at hchk
            rw [hop] at hchk
            simp only at hchk
            split at hchk
            · rename_i v ws hc
              obtain ⟨_, x, xs, hx1, hx2⟩ := chk_spec hc
              rw [hxs] at hx1
              simp only [List.map_cons, List.cons.injEq] at hx1
              obtain ⟨rfl, rfl⟩ := hx1
              exact ⟨_, hx2⟩
            · cases hchk
          obtain ⟨dd, hcore⟩ := hcore
          have ho1 := objs_between pl tr (p := ps e + 1) (p' := r) (by omega) (by omega) (fun k h1 h2 => hr2 k (by omega) h2)
          have ho2 := objs_between pl tr (p := ps e + 1) (p' := q) (by omega) j.le (fun k h1 h2 => e4 k (by omega) h2)
          have hl : (st r).l = (st q).l := by rw [ho1.1, ho2.1]
          have hoo : (st r).o = (st q).o := by rw [ho1.2, ho2.2]
          have hget : (st r).get = (stL os s s' st listed q).get := get_ext hl hoo
          have hevs : ai.xs.map (st r).ev = ai.xs.map (stL os s s' st listed q).ev := by
            refine List.map_congr_left fun x hx => ?_
            cases x with
            | t u =>
              simp only [St.ev, stL]
              exact (ops_agree pl tr j.clo hi ha (by omega) (by omega) (by rw [hX]; exact mem_opdTmps hx)).symm
            | k v => rfl
            | f v => rfl
          have hvt : getR (st r).r t = getR s'.r t := regs_done pl tr (i := i) (by rw [← hd]; exact hcd) (by omega) (by omega)
          rw [hget, hevs, hvt, hoo] at hcore
          exact ⟨_, (rd_core1 (d' := ai.d.getD 999) hrd hcore).2, fun t' ht' => by rw [hcd] at ht'; injection ht' with ht'; rw [ht']⟩
        · rw [hK] at hpure
          have hevs : ai.xs.map (st (ps i)).ev = ai.xs.map (stL os s s' st listed q).ev := by
            refine List.map_congr_left fun x hx => ?_
            cases x with
            | t u =>
              simp only [St.ev, stL]
              exact (ops_agree pl tr j.clo hi ha (Nat.le_refl _) (by omega) (by rw [hX]; exact mem_opdTmps hx)).symm
            | k v => rfl
            | f v => rfl
          have hstep' := hstep
          unfold stepGo at hstep'
          split at hstep'
          · rename_i b l hop'
            rw [hop'] at hrd; simp [isRd] at hrd
          · rw [core_core1 hck] at hstep'
            split at hstep'
            · rename_i v ws hc
              simp only [Option.some.injEq] at hstep'
              have hws := (rd_core1 (d' := 0) hrd hc).1
              subst hws
              rw [hevs] at hc
              refine ⟨v, pure_core1 hpure hc, hval (r1 := []) ?_⟩
              rw [← hstep']
              rfl
            · cases hstep'
      obtain ⟨yv, hcore2, hyv⟩ := hcore3
      have hgo : stepGo call (stL os s s' st listed q) ai = some ((stL os s s' st listed q).put ai.d yv) := by
        unfold stepGo
        split
        · rename_i b l hop'
          rw [hop'] at hrd; simp [isRd] at hrd
        · rw [core_core1 hck]
          have : (stL os s s' st listed q).o.length = (st q).o.length := rfl
          rw [this, hcore2]
          rfl
      refine ⟨_, q, hgo, hJ, fun k => hregs (y := yv) rfl hyv q k, ?_, ?_⟩
      · cases hdd : ai.d <;> rfl
      · cases hdd : ai.d <;> rfl
/-- Every order. -/
theorem any_ok (hs : SoundC P call) (hlv : Lv n S0) (pl : Plan P N os as ps) (tr : Tr call as s s' st) {Q : Exit → Act → World → Prop} (hQ : ∀ a' w', Inv N c0 S0 w0 n s' a' w' → Q .normal a' w') :
    ∀ (fuel : Nat) (listed : Array Bool) (q : Nat) (a : Act) (w : World), J os as ps listed q → (List.range os.size).countP (fun i => !listed.getD i false) ≤ fuel → Inv N c0 S0 w0 n (stL os s s' st listed q) a w → wpAny P .any os Q fuel listed a w := by
  -- when nothing is ready, everything is listed
  have key : ∀ {listed : Array Bool} {q : Nat}, J os as ps listed q → (Region.ready .any os listed = [] ∨ (List.range os.size).countP (fun i => !listed.getD i false) = 0) → ∀ i, i < os.size → listed.getD i false = true := by
    intro listed q j h i hi
    refine Classical.byContradiction fun hu => ?_
    have hu : listed.getD i false = false := by simpa using hu
    rcases h with h | h
    · obtain ⟨m, ⟨hm1, hm2⟩, hm3⟩ := min_pos (ps := ps) (f := fun k => k < os.size ∧ listed.getD k false = false) (ps i) ⟨i, ⟨hi, hu⟩, Nat.le_refl _⟩
      have : m ∈ Region.ready .any os listed := by
        rw [mem_ready]
        refine ⟨?_, os[m], Array.getElem?_eq_getElem hm1, fun e he hb => ?_⟩
        · have hms : m < listed.size := by rw [j.size]; exact hm1
          simp only [Array.getD, hms, dif_pos] at hm2 ⊢
          exact hm2
        · have hmem : e.on ∈ afterOf os m := by
            simp only [afterOf, Array.getElem?_eq_getElem hm1]
            exact List.mem_map.2 ⟨e, List.mem_filter.2 ⟨Array.mem_toList_iff.2 he, hb⟩, rfl⟩
          obtain ⟨h1, h2⟩ := pl.top m e.on hm1 hmem
          cases hl : listed.getD e.on false with
          | true => rfl
          | false => have := hm3 e.on ⟨h1, hl⟩; omega
      rw [h] at this; cases this
    · have := List.countP_eq_zero.1 h i (List.mem_range.2 hi)
      simp [hu] at this
  have done : ∀ {listed : Array Bool} {q : Nat} {a : Act} {w : World}, J os as ps listed q → (∀ i, i < os.size → listed.getD i false = true) → Inv N c0 S0 w0 n (stL os s s' st listed q) a w → Q .normal a w := by
    intro listed q a w j hall inv
    refine hQ _ _ (inv.ext (fun t => ?_) ?_ ?_)
    · simp only [stL, getR_regsL]
      by_cases h : ∃ i, listed.getD i false = true ∧ dstOf os i = some t
      · rw [if_pos h]
      · rw [if_neg h, ← tr.e]
        exact regs_none pl tr (fun i hi => h ⟨i, hall i (dst_lt hi), hi⟩) (Nat.le_refl _)
    all_goals
      have := objs_between pl tr (p := q) (p' := as.length) j.le (Nat.le_refl _) (fun r h1 h2 => by
        cases he : isEff as r with
        | false => rfl
        | true =>
          obtain ⟨a', ha'⟩ : ∃ a', as[r]? = some a' := ⟨_, List.getElem?_eq_getElem h2⟩
          rcases pl.pos r a' ha' with ⟨h, _⟩ | ⟨e, oe, hoe, rfl⟩
          · simp [isEff, opK, ha', h] at he
          · have hes : e < os.size := (Array.getElem?_eq_some_iff.1 hoe).1
            have := (j.eff e hes he).1 (hall e hes)
            omega)
      rw [tr.e] at this
      first | exact this.1 | exact this.2
  intro fuel
  induction fuel with
  | zero =>
    intro listed q a w j hc inv
    have hall := key j (.inr (Nat.le_zero.1 hc))
    refine ⟨?_, done j hall inv⟩
    refine List.eq_nil_iff_forall_not_mem.2 fun i hi => ?_
    obtain ⟨h0, o, ho, _⟩ := mem_ready.1 hi
    have his : i < os.size := (Array.getElem?_eq_some_iff.1 ho).1
    have h1 := hall i his
    have hms : i < listed.size := by rw [j.size]; exact his
    simp only [Array.getD, hms, dif_pos] at h0 h1
    rw [h0] at h1; cases h1
  | succ fuel ih =>
    intro listed q a w j hc inv
    refine ⟨fun h => done j (key j (.inl h)) inv, fun i hi => ?_⟩
    obtain ⟨h0, o, ho, haft⟩ := mem_ready.1 hi
    have his : i < os.size := (Array.getElem?_eq_some_iff.1 ho).1
    have hms : i < listed.size := by rw [j.size]; exact his
    have hun : listed.getD i false = false := by
      simp only [Array.getD, hms, dif_pos] at h0 ⊢
      exact h0
    have haf : ∀ r ∈ afterOf os i, listed.getD r false = true := by
      intro r hr
      simp only [afterOf, ho] at hr
      obtain ⟨e, he, rfl⟩ := List.mem_map.1 hr
      obtain ⟨he1, he2⟩ := List.mem_filter.1 he
      exact haft e (Array.mem_toList_iff.1 he1) he2
    obtain ⟨ai, hai, hok, hg, hck⟩ := pl.op i o ho
    obtain ⟨s2, q', h1, h2, h3, h4, h5⟩ := one_more pl tr j his hai hun haf
    unfold wpOp
    simp only [ho]
    have hcount : (List.range os.size).countP (fun k => !(listed.setIfInBounds i true).getD k false) ≤ fuel := by
      have := countP_lt (p := fun k => !listed.getD k false) (p' := fun k => !(listed.setIfInBounds i true).getD k false) (l := List.range os.size) (i := i) (fun x hx => by
        have hx' : (listed.setIfInBounds i true).getD x false = false := by simpa using hx
        have : ¬ listed.getD x false = true := fun h => by rw [(listed_set hms).2 (.inr h)] at hx'; cases hx'
        simpa using this) (List.mem_range.2 his) (by simp only [hun]; rfl) (by simp only [(listed_set hms).2 (.inl rfl)]; rfl)
      omega
    have hstep := ai_ok (Q := Q) (K := wpAny P .any os Q fuel (listed.setIfInBounds i true)) hs hlv inv hok h1 (fun a' w' inv' => ih _ q' a' w' h2 hcount (inv'.ext h3 h4 h5))
    split
    · rename_i hw; rw [if_pos hw] at hstep; exact .inl hstep
    · rename_i hw; rw [if_neg hw] at hstep; exact hstep
theorem draw_ok (hs : SoundC P call) (hlv : Lv n S0) (hm : P.follows .mixedOrders = true) (pl : Plan P N os as ps) {id : Nat} {Q : Exit → Act → World → Prop} (e : steps call s as = some s') (inv : Inv N c0 S0 w0 n s a w) (hQ : ∀ a' w', Inv N c0 S0 w0 n s' a' w' → Q .normal a' w') :
    (Code.region id os true).wp P Q a w := by
  obtain ⟨st, t1, t2, t3⟩ := trace e
  have tr : Tr call as s s' st := ⟨t1, t2, t3⟩
  refine wp_region_any hm (any_ok hs hlv pl tr hQ _ _ 0 _ _ ⟨by simp, ?_, ?_, Nat.zero_le _⟩ ?_ ?_)
  · intro i hi h
    simp [hi] at h
  · intro e he _
    simp [he]
  · exact Nat.le_trans List.countP_le_length (by simp)
  · have hinv : Inv N c0 S0 w0 n s a { w with drawn := w.drawn + 1 } := by
      obtain ⟨c, fp, sim, ha, hg, hd, hn⟩ := inv
      exact ⟨c, fp, ⟨sim.rg, sim.st, sim.df, sim.sz⟩, ha, hg.trans ⟨rfl, rfl, rfl, Nat.le_refl _, fun _ => rfl⟩, hd, hn⟩
    refine hinv.ext (fun t => ?_) (by simp [stL, tr.z]) (by simp [stL, tr.z])
    simp only [stL, getR_regsL]
    rw [if_neg]
    rintro ⟨i, h, hi⟩
    have := dst_lt hi
    simp [this] at h
end
end Go.Am
end
section
/- The machine is sound. -/
set_option linter.unusedSimpArgs false
set_option linter.unusedVariables false
namespace Go.Am
open Go.RowKit
/-! #### the form of drawn regions, as a test -/
def eqL : PV → PV → Bool
  | .sc (.int k a), .sc (.int k' b) => decide (k = k') && decide (a = b)
  | .sc (.bool a), .sc (.bool b) => a == b
  | _, _ => false
theorem eqL_spec {x y : PV} (h : eqL x y = true) : x = y := by
  unfold eqL at h
  split at h
  · simp only [Bool.and_eq_true, decide_eq_true_eq] at h; obtain ⟨rfl, rfl⟩ := h; rfl
  · obtain rfl := eq_of_beq h; rfl
  · cases h
def eqO : Opd → Opd → Bool
  | .t a, .t b => a == b
  | .f a, .f b => a == b
  | .k x, .k y => eqL x y
  | _, _ => false
theorem eqO_spec {x y : Opd} (h : eqO x y = true) : x = y := by
  unfold eqO at h
  split at h
  · obtain rfl := eq_of_beq h; rfl
  · obtain rfl := eq_of_beq h; rfl
  · rw [eqL_spec h]
  · cases h
def eqOs : List Opd → List Opd → Bool
  | [], [] => true
  | x :: xs, y :: ys => eqO x y && eqOs xs ys
  | _, _ => false
theorem eqOs_spec : ∀ {xs ys : List Opd}, eqOs xs ys = true → xs = ys
  | [], [], _ => rfl
  | [], _ :: _, h => by simp [eqOs] at h
  | _ :: _, [], h => by simp [eqOs] at h
  | x :: xs, y :: ys, h => by
    simp only [eqOs, Bool.and_eq_true] at h
    rw [eqO_spec h.1, eqOs_spec h.2]
def eqK : K → K → Bool
  | .load k t, .load k' t' => k == k' && t == t'
  | .faddr a, .faddr b => a == b
  | .iaddr a, .iaddr b => a == b
  | .iarr a b, .iarr a' b' => a == a' && b == b'
  | .len, .len => true
  | .nck, .nck => true
  | _, _ => false
theorem eqK_spec {x y : K} (h : eqK x y = true) : x = y := by
  unfold eqK at h
  split at h
  · simp only [Bool.and_eq_true] at h; obtain rfl := eq_of_beq h.1; obtain rfl := eq_of_beq h.2; rfl
  · obtain rfl := eq_of_beq h; rfl
  · obtain rfl := eq_of_beq h; rfl
  · simp only [Bool.and_eq_true] at h; obtain rfl := eq_of_beq h.1; obtain rfl := eq_of_beq h.2; rfl
  · rfl
  · rfl
  · cases h
def isChkOf (a b : AI) : Bool := match a.op, b.d, a.xs with
  | .chk k, some t, x :: xs => eqK k b.op && eqO x (.t t) && eqOs xs b.xs
  | _, _, _ => false
theorem isChkOf_spec {a b : AI} (h : isChkOf a b = true) : ∃ t, b.d = some t ∧ a.op = .chk b.op ∧ a.xs = .t t :: b.xs := by
  unfold isChkOf at h
  split at h
  · rename_i k t x xs h1 h2 h3
    simp only [Bool.and_eq_true] at h
    exact ⟨t, h2, by rw [h1, eqK_spec h.1.1], by rw [h3, eqO_spec h.1.2, eqOs_spec h.2]⟩
  · cases h
def chkB (as : List AI) (p e : Nat) : Bool := (List.range as.length).any fun r => match as[r]?, as[p]? with
  | some a, some b => decide (e < r) && (List.range as.length).all (fun q => !(decide (e < q) && decide (q < r)) || !isEff as q) && isChkOf a b
  | _, _ => false
def pairB (os : Array Oper) (as : List AI) (ps : Nat → Nat) (i j : Nat) : Bool :=
  (i == j || ps i != ps j) &&
  (match dstOf os i, dstOf os j with | some t, some u => t != u || i == j | _, _ => true) &&
  (match dstOf os j with | some t => !(opdTmps (opX as (ps i))).contains t || anc os os.size i j | none => true) &&
  (!isEff as (ps j) || !decide (ps j < ps i) || anc os os.size i j) &&
  (!isEff as (ps j) || isEff as (ps i) || !decide (ps i < ps j) || anc os os.size j i || chkB as (ps i) (ps j) || isPure (opK as (ps i)))
def okDraw (P : Program) (N : Nat) (os : Array Oper) (as : List AI) (psl : List Nat) : Bool :=
  (List.range os.size).all (fun i => match os[i]?, as[psl.getD i 0]? with | some o, some ai => okAI P N os ai o && ai.g.isNone && !isChk ai.op | _, _ => false) &&
  (List.range as.length).all (fun p => match as[p]? with | some ai => (isChk ai.op && ai.d.isNone && ai.g.isNone) || (List.range os.size).any (fun i => psl.getD i 0 == p) | none => true) &&
  (List.range os.size).all (fun i => (List.range os.size).all fun j => pairB os as (fun i => psl.getD i 0) i j) &&
  (List.range os.size).all (fun i => (afterOf os i).all fun q => decide (q < os.size) && decide (psl.getD q 0 < psl.getD i 0))
theorem okDraw_plan {P : Program} {N : Nat} {os : Array Oper} {as : List AI} {psl : List Nat} (h : okDraw P N os as psl = true) : Plan P N os as (fun i => psl.getD i 0) := by
  simp only [okDraw, Bool.and_eq_true, List.all_eq_true, List.mem_range] at h
  obtain ⟨⟨⟨h1, h2⟩, h3⟩, h4⟩ := h
  have hp : ∀ i j, i < os.size → j < os.size → pairB os as (fun i => psl.getD i 0) i j = true := fun i j hi hj => h3 i hi j hj
  constructor
  · intro i o ho
    have := h1 i (Array.getElem?_eq_some_iff.1 ho).1
    rw [ho] at this
    split at this
    · rename_i o' ai e1 e2
      simp only [Option.some.injEq] at e1
      subst e1
      simp only [Bool.and_eq_true, Bool.not_eq_true', Option.isNone_iff_eq_none] at this
      exact ⟨ai, e2, this.1.1, this.1.2, this.2⟩
    · cases this
  · intro p ai hai
    have := h2 p (List.getElem?_eq_some_iff.1 hai).1
    rw [hai] at this
    simp only [Bool.or_eq_true, Bool.and_eq_true, Option.isNone_iff_eq_none, List.any_eq_true, List.mem_range, beq_iff_eq] at this
    rcases this with ⟨⟨a, b⟩, c⟩ | ⟨i, hi, hpi⟩
    · exact .inl ⟨a, b, c⟩
    · exact .inr ⟨i, os[i], Array.getElem?_eq_getElem hi, hpi⟩
  · intro i j hi hj e
    have := hp i j hi hj
    simp only [pairB, Bool.and_eq_true, Bool.or_eq_true, beq_iff_eq, bne_iff_ne] at this
    rcases this.1.1.1.1 with h | h
    · exact h
    · exact absurd e h
  · intro i j t hi hj
    have := hp i j (dst_lt hi) (dst_lt hj)
    simp only [pairB, hi, hj, Bool.and_eq_true, Bool.or_eq_true, beq_iff_eq, bne_iff_ne] at this
    rcases this.1.1.1.2 with h | h
    · exact absurd rfl h
    · exact h
  · intro i j t hj ht hi
    have := hp i j hi (dst_lt hj)
    simp only [pairB, hj, Bool.and_eq_true, Bool.or_eq_true, Bool.not_eq_true'] at this
    rcases this.1.1.2 with h | h
    · have h' : (opdTmps (opX as (psl.getD i 0))).contains t = true := by simpa using ht
      rw [h'] at h; cases h
    · exact h
  · intro i q hi hq
    have := h4 i hi q hq
    simpa using this
  · intro i e hi he hE hlt
    have := hp i e hi he
    simp only [pairB, hE, Bool.and_eq_true, Bool.or_eq_true, Bool.not_eq_true', decide_eq_false_iff_not] at this
    rcases this.1.2 with (h | h) | h
    · cases h
    · exact absurd hlt h
    · exact h
  · intro i e hi he hE hE' hlt
    have := hp i e hi he
    simp only [pairB, hE, hE', Bool.and_eq_true, Bool.or_eq_true, Bool.not_eq_true', decide_eq_false_iff_not] at this
    rcases this.2 with ((((h | h) | h) | h) | h) | h
    · cases h
    · cases h
    · exact absurd hlt h
    · exact .inl h
    · refine .inr (.inl ?_)
      simp only [chkB, List.any_eq_true, List.mem_range] at h
      obtain ⟨r, hr, h⟩ := h
      split at h
      · rename_i a b ha hb
        simp only [Bool.and_eq_true, decide_eq_true_eq, List.all_eq_true, List.mem_range, Bool.or_eq_true, Bool.not_eq_true'] at h
        obtain ⟨⟨h5, h6⟩, h7⟩ := h
        obtain ⟨t, g1, g2, g3⟩ := isChkOf_spec h7
        refine ⟨r, a, b, t, ha, hb, g1, h5, fun q hq1 hq2 => ?_, g2, g3⟩
        rcases h6 q (by omega) with h | h
        · simp only [Bool.and_eq_false_iff, decide_eq_false_iff_not] at h
          omega
        · exact h
      · cases h
    · exact .inr (.inr h)
/-! #### code -/
def okC (P : Program) (N : Nat) : AC → Code → Bool
  | .skip, .skip => true
  | .reg ord as _ _, .region _ os draw => if draw then okDraw P N os as ord else okAIs P N os as os.toList
  | .seq a b, .seq x y => okC P N a x && okC P N b y
  | .cond c a b, .cond c' x y => opdOK c c' && okC P N a x && okC P N b y
  | .block n a, .block n' x => n == n' && okC P N a x
  | .loop _ _ a, .loop x => okC P N a x
  | .exit n, .exit n' => n == n'
  | .ret, .ret => true
  | _, _ => false
/-- The loop's rounds, from its head. -/
def LW (P : Program) (c : Code) (Q : Exit → Act → World → Prop) (a : Act) (w : World) : Prop := ∀ (b : Frame) (k : List Item) (cs : List Frame),
  ∃ e a' w', Q e a' w' ∧ Arrives P (lone (b.at a (.code c :: .inLoop c :: k)) cs w) b k cs e a' w'
section
variable {P : Program}
theorem LW.wp {c : Code} {Q : Exit → Act → World → Prop} {a : Act} {w : World} (h : LW P c Q a w) : (Code.loop c).wp P Q a w := by
  intro b k cs
  obtain ⟨e, a', w', hq, harr⟩ := h b k cs
  exact ⟨e, a', w', hq, .of_steps (.one step_loop) harr⟩
theorem LW.round {c : Code} {Q : Exit → Act → World → Prop} {a : Act} {w : World} (h : c.wp P (Exit.then (LW P c Q) Q) a w) : LW P c Q a w := by
  intro b k cs
  obtain ⟨e, a₁, w₁, hq, harr⟩ := h b (.inLoop c :: k) cs
  cases e with
  | normal =>
    obtain ⟨e₂, a₂, w₂, hq₂, harr₂⟩ := hq b k cs
    exact ⟨e₂, a₂, w₂, hq₂, .of_steps (Steps.trans harr (.one step_inLoop)) harr₂⟩
  | exit id => exact ⟨_, a₁, w₁, hq, .pass (x := .inLoop c) rfl (fun _ _ => .inl (by simp)) harr⟩
  | goto l => exact ⟨_, a₁, w₁, hq, .pass (x := .inLoop c) rfl (fun _ _ => .inl (by simp)) harr⟩
  | ret => exact ⟨_, a₁, w₁, hq, .pass (x := .inLoop c) rfl (fun _ _ => .inl (by simp)) harr⟩
  | panic ch => exact ⟨_, a₁, w₁, hq, .pass (x := .inLoop c) rfl (fun _ _ => .inl (by simp)) harr⟩
  | outgrown => exact ⟨_, a₁, w₁, hq, .pass (x := .inLoop c) rfl (fun _ _ => .inl (by simp)) harr⟩
def exOf : EX → Exit
  | .normal => .normal
  | .exit n => .exit n
  | .ret => .ret
def Post (N : Nat) (c0 : Ctx) (S0 : Sto) (w0 : World) (n : Nat) (ex : EX) (s' : St) : Exit → Act → World → Prop := fun e a w => e = exOf ex ∧ Inv N c0 S0 w0 n s' a w
def SoundL (P : Program) (loopF : List Nat → List Nat → AC → St → Option (EX × St)) : Prop := ∀ lv ob ac s ex s', loopF lv ob ac s = some (ex, s') → ∀ (N : Nat) (c0 : Ctx) (S0 : Sto) (w0 : World) (n : Nat) (code : Code) (a : Act) (w : World),
  okC P N ac code = true → Lv n S0 → Inv N c0 S0 w0 n s a w → LW P code (Post N c0 S0 w0 n ex s') a w
section
variable {N n : Nat} {c0 : Ctx} {S0 : Sto} {w0 : World} {call : CallF} {loopF : List Nat → List Nat → AC → St → Option (EX × St)}
theorem run_ok (hm : P.follows .mixedOrders = true) (hs : SoundC P call) (hl : SoundL P loopF) (hlv : Lv n S0) : ∀ (ac : AC) (code : Code) (s s' : St) (ex : EX) (a : Act) (w : World), okC P N ac code = true → run call loopF ac s = some (ex, s') → Inv N c0 S0 w0 n s a w →
    code.wp P (Post N c0 S0 w0 n ex s') a w
  | .skip, code, s, s', ex, a, w, hk, e, inv => by
    cases code <;> simp only [okC] at hk <;> first | (cases hk; done) | skip
    simp only [run, Option.some.injEq, Prod.mk.injEq] at e
    obtain ⟨rfl, rfl⟩ := e
    exact wp_skip ⟨rfl, inv⟩
  | .reg ord as lv ob, code, s, s', ex, a, w, hk, e, inv => by
    cases code <;> simp only [okC] at hk <;> first | (cases hk; done) | skip
    rename_i id os draw
    simp only [run] at e
    split at e
    · rename_i s1 h1
      cases draw with
      | true =>
        simp only [if_true] at hk
        refine draw_ok hs hlv hm (okDraw_plan hk) h1 inv fun a' w' inv' => ?_
        obtain ⟨rfl, h⟩ := keep_ok hlv inv' e
        exact ⟨rfl, h⟩
      | false =>
        simp only [Bool.false_eq_true, if_false] at hk
        refine wp_region_list (list_ok hs hlv hk h1 inv fun a' w' inv' => ?_)
        obtain ⟨rfl, h⟩ := keep_ok hlv inv' e
        exact ⟨rfl, h⟩
    · cases e
  | .seq x y, code, s, s', ex, a, w, hk, e, inv => by
    cases code <;> simp only [okC] at hk <;> first | (cases hk; done) | skip
    rename_i cx cy
    simp only [Bool.and_eq_true] at hk
    simp only [run] at e
    cases h1 : run call loopF x s with
    | none => rw [h1] at e; cases e
    | some p =>
      obtain ⟨ex1, s1⟩ := p
      have hx := run_ok hm hs hl hlv x cx s s1 ex1 a w hk.1 h1 inv
      refine wp_seq (wp_mono hx fun e' a' w' hq => ?_)
      obtain ⟨rfl, inv'⟩ := hq
      cases ex1 with
      | normal =>
        rw [h1] at e
        exact run_ok hm hs hl hlv y cy s1 s' ex a' w' hk.2 e inv'
      | exit m =>
        rw [h1] at e
        simp only [Option.some.injEq, Prod.mk.injEq] at e
        obtain ⟨rfl, rfl⟩ := e
        exact ⟨rfl, inv'⟩
      | ret =>
        rw [h1] at e
        simp only [Option.some.injEq, Prod.mk.injEq] at e
        obtain ⟨rfl, rfl⟩ := e
        exact ⟨rfl, inv'⟩
  | .cond c x y, code, s, s', ex, a, w, hk, e, inv => by
    cases code <;> simp only [okC] at hk <;> first | (cases hk; done) | skip
    rename_i cc cx cy
    simp only [Bool.and_eq_true] at hk
    simp only [run] at e
    split at e
    · rename_i t ht
      have hv : a.eval cc = .bool t := by
        obtain ⟨c, fp, sim, _⟩ := inv
        have := opd_RVal sim hk.1.1
        rw [ht] at this
        exact sc_eq this
      refine wp_cond hv ?_
      cases t with
      | true =>
        simp only [if_true] at e
        simp only [if_true]
        exact run_ok hm hs hl hlv x cx s s' ex a w hk.1.2 e inv
      | false =>
        simp only [Bool.false_eq_true, if_false] at e
        simp only [Bool.false_eq_true, if_false]
        exact run_ok hm hs hl hlv y cy s s' ex a w hk.2 e inv
    · cases e
  | .block m x, code, s, s', ex, a, w, hk, e, inv => by
    cases code <;> simp only [okC] at hk <;> first | (cases hk; done) | skip
    rename_i id cx
    simp only [Bool.and_eq_true] at hk
    obtain rfl := eq_of_beq hk.1
    simp only [run] at e
    cases h1 : run call loopF x s with
    | none => rw [h1] at e; cases e
    | some p =>
      obtain ⟨ex1, s1⟩ := p
      have hx := run_ok hm hs hl hlv x cx s s1 ex1 a w hk.2 h1 inv
      refine wp_block (wp_mono hx fun e' a' w' hq => ?_)
      obtain ⟨rfl, inv'⟩ := hq
      rw [h1] at e
      cases ex1 with
      | normal =>
        simp only [Option.some.injEq, Prod.mk.injEq] at e
        obtain ⟨rfl, rfl⟩ := e
        exact ⟨rfl, inv'⟩
      | exit q =>
        simp only at e
        simp only [exOf, Exit.inBlock]
        split at e
        · rename_i hq
          simp only [Option.some.injEq, Prod.mk.injEq] at e
          obtain ⟨rfl, rfl⟩ := e
          rw [if_pos hq]
          exact ⟨rfl, inv'⟩
        · rename_i hq
          simp only [Option.some.injEq, Prod.mk.injEq] at e
          obtain ⟨rfl, rfl⟩ := e
          rw [if_neg hq]
          exact ⟨rfl, inv'⟩
      | ret =>
        simp only [Option.some.injEq, Prod.mk.injEq] at e
        obtain ⟨rfl, rfl⟩ := e
        exact ⟨rfl, inv'⟩
  | .loop lv ob x, code, s, s', ex, a, w, hk, e, inv => by
    cases code <;> simp only [okC] at hk <;> first | (cases hk; done) | skip
    rename_i cx
    simp only [run] at e
    exact (hl lv ob x s ex s' e N c0 S0 w0 n cx a w hk hlv inv).wp
  | .exit m, code, s, s', ex, a, w, hk, e, inv => by
    cases code <;> simp only [okC] at hk <;> first | (cases hk; done) | skip
    obtain rfl := eq_of_beq hk
    simp only [run, Option.some.injEq, Prod.mk.injEq] at e
    obtain ⟨rfl, rfl⟩ := e
    exact wp_exit ⟨rfl, inv⟩
  | .ret, code, s, s', ex, a, w, hk, e, inv => by
    cases code <;> simp only [okC] at hk <;> first | (cases hk; done) | skip
    simp only [run, Option.some.injEq, Prod.mk.injEq] at e
    obtain ⟨rfl, rfl⟩ := e
    exact wp_ret ⟨rfl, inv⟩
end
end
end Go.Am
end
section
/- What the machine computes, the program does. -/
set_option linter.unusedSimpArgs false
set_option linter.unusedVariables false
namespace Go.Am
open Go.RowKit
def okRes (P : Program) : List RV → List ResultVar → Bool
  | [], [] => true
  | .tmp t :: r, .tmp t' :: r' => t == t' && okRes P r r'
  | .cell t k :: r, .cell t' ty :: r' => t == t' && kindOf P ty == some k && okRes P r r'
  | _, _ => false
def okF (P : Program) (f : Nat) (af : AF) : Bool :=
  match P.funcs[f]? with
  | some fn => match fn.body with
    | some c => okC P fn.ntmps af.body c && okRes P af.res fn.results.toList && fn.name != "runtime.NumGoroutine"
    | none => false
  | none => false
structure ProgOK (P : Program) (G : Prog) : Prop where
  mixed : P.follows .mixedOrders = true
  code : ∀ f af, G.prim f = none → G.code f = some af → okF P f af = true
  prim : ∀ f p, G.prim f = some p → ∀ args o r o', p args o = some (r, o') → Good P f args o r o'
section
variable {P : Program} {G : Prog}
def resOp (P : Program) (tmps : Array Value) : ResultVar → Sem Value
  | .tmp t => pure (tmps.getD t undef)
  | .cell a t => do loadVar t (← asAddr (tmps.getD a undef))
theorem resVs_ok {N : Nat} {c : Ctx} {fp : Id → List Nat} {s : St} {a : Act} {w : World} (sim : Sim N c fp s a w) : ∀ {res : List RV} {rs : List ResultVar} {vs : List PV}, okRes P res rs = true → resVs s res = some vs →
    ∃ vals, (rs.mapM (resOp P a.tmps)).run P w = .ok vals w ∧ RV1s c s.get (hp w) vs vals ∧ ∀ x ∈ vs, ∀ ps, x ≠ .tup ps
  | [], rs, vs, hk, e => by
    cases rs with
    | cons _ _ => simp [okRes] at hk
    | nil =>
      simp only [resVs, Option.some.injEq] at e
      subst e
      exact ⟨[], by simp, rfl, fun x hx => by cases hx⟩
  | x :: res, rs, vs, hk, e => by
    cases rs with
    | nil => cases x <;> simp [okRes] at hk
    | cons y rs =>
      simp only [resVs] at e
      split at e
      · rename_i v vs' h1 h2
        simp only [Option.some.injEq] at e
        subst e
        have key : okRes P res rs = true ∧ ∃ u, (resOp P a.tmps y).run P w = .ok u w ∧ RV1 c s.get (hp w) v u ∧ ∀ ps, v ≠ .tup ps := by
          cases x with
          | tmp t =>
            cases y with
            | cell _ _ => simp [okRes] at hk
            | tmp t' =>
              simp only [okRes, Bool.and_eq_true] at hk
              obtain rfl := eq_of_beq hk.1
              refine ⟨hk.2, a.tmps.getD t undef, by simp [resOp], ?_⟩
              have hr := sim.rg t
              simp only [resV] at h1
              split at h1
              · cases h1
              · rename_i hnt
                simp only [Option.some.injEq] at h1
                subst h1
                refine ⟨?_, hnt⟩
                cases hg : getR s.r t with
                | tup ps => exact absurd hg (hnt ps)
                | _ => rw [hg] at hr; exact hr
          | cell t k =>
            cases y with
            | tmp _ => simp [okRes] at hk
            | cell t' ty =>
              simp only [okRes, Bool.and_eq_true] at hk
              obtain rfl := eq_of_beq hk.1.1
              have hkind := eq_of_beq hk.1.2
              refine ⟨hk.2, ?_⟩
              have hr := sim.rg t
              simp only [resV] at h1
              split at h1
              · rename_i id m i j hg
                rw [hg] at hr
                split at h1
                · rename_i ob hob
                  split at h1
                  · rename_i hbox
                    split at h1
                    · rename_i cs hcs
                      obtain ⟨o, us, f, g1, g2, g3, g4, g5⟩ := elem_at sim.st hob hcs
                      have hf := g5 hbox
                      subst hf
                      have hp := ptr_eq g4 hr
                      obtain ⟨u, hu, hru⟩ := load_cells (P := P) hkind g1 g2 g3 h1
                      have hnt : ∀ ps, v ≠ .tup ps := by
                        rintro ps rfl
                        cases k with
                        | none =>
                          simp only [takeC] at h1
                          have := List.all_eq_true.1 g1 _ (List.mem_of_getElem? h1)
                          simp [cellP] at this
                        | some k =>
                          simp only [takeC] at h1
                          split at h1
                          · simp at h1
                          · cases h1
                      refine ⟨u, by simp only [resOp, hp]; simp [asAddr, hu], ?_, hnt⟩
                      cases v with
                      | tup ps => exact absurd rfl (hnt ps)
                      | _ => exact hru
                    · cases h1
                  · cases h1
                · cases h1
              · cases h1
        obtain ⟨hk2, u, hu, hr, hnt⟩ := key
        obtain ⟨vals, h3, h4, h5⟩ := resVs_ok sim hk2 h2
        refine ⟨u :: vals, by simp [List.mapM_cons, hu, h3], ⟨u, vals, rfl, hr, h4⟩, fun x hx => ?_⟩
        rcases List.mem_cons.1 hx with rfl | hx
        · exact hnt
        · exact h5 x hx
      · cases e
theorem run_results {fn : Func} {a : Act} {w : World} {vals : List Value} (h : (fn.results.toList.mapM (resOp P a.tmps)).run P w = .ok vals w) : (results fn a.tmps).run P w = .ok (single' vals) w := by
  have h1 : results fn a.tmps = (do let vs ← fn.results.mapM (resOp P a.tmps); pure (if h : vs.size = 1 then vs[0] else .tuple vs) : Sem Value) := by
    unfold results
    congr 1
  rw [h1, Array.mapM_eq_mapM_toList]
  simp only [Sem.run_bind, Sem.run_map, h, Result.andThen_ok, Sem.run_pure]
  cases vals with
  | nil => simp [single', h]
  | cons v l =>
    cases l with
    | nil => simp [single', h]
    | cons u l => simp [single', h]
theorem restrict_ok {c : Ctx} {S : Sto} {w : World} {fp : Id → List Nat} {m : Nat} (ok : StOK c S (hp w) fp) : StOK c (hideS S m) (hp w) fp := by
  refine ok.less (fun id ob h => (hideS_some h).2) (fun id ob h => ?_)
  obtain ⟨h1, h2⟩ := hideS_some h
  refine RO.vis (c := c) (S := S) (fun _ _ h => h) (fun i hi => ⟨?_, rfl⟩) (fun _ _ => rfl) (ok.ob id ob h2)
  unfold hideS
  rw [if_pos (by omega)]
theorem getR_pars : ∀ (xs : List PV) (q t : Nat), getR (pars q xs) t = if q ≤ t then (xs[t - q]?).getD .undef else .undef
  | [], q, t => by simp [pars, getR]
  | x :: xs, q, t => by
    simp only [pars, getR]
    by_cases h : q = t
    · subst h; simp
    · simp only [h, if_false]
      rw [getR_pars xs (q + 1) t]
      by_cases h2 : q ≤ t
      · have h3 : q + 1 ≤ t := by omega
        have h4 : t - q = (t - (q + 1)) + 1 := by omega
        rw [if_pos h3, if_pos h2, h4, List.getElem?_cons_succ]
      · rw [if_neg h2, if_neg (by omega)]
theorem RVals_get {c : Ctx} {S : Sto} {w : World} : ∀ {xs : List PV} {vs : List Value}, RVals c S (hp w) xs vs → ∀ t : Nat, RVal c S (hp w) ((xs[t]?).getD .undef) ((vs[t]?).getD undef)
  | [], _, r, t => by simp [RVal, RV1]
  | x :: xs, _, ⟨v, ws, rfl, r1, r2⟩, 0 => by simpa using r1
  | x :: xs, _, ⟨v, ws, rfl, r1, r2⟩, t + 1 => by simpa using RVals_get r2 t
theorem entry {c : Ctx} {o : Stack} {w : World} {fp : Id → List Nat} {args : List PV} {vals : List Value} {N : Nat} (ok : StOK c (gt o) (hp w) fp) (r : RVals c (gt o) (hp w) args vals) :
    Inv N c (gt o) w o.length ⟨pars 0 args, [], o⟩ { tmps := vals.toArray ++ Array.replicate (N - vals.toArray.size) undef, defers := [] } w := by
  have hget : (⟨pars 0 args, [], o⟩ : St).get = gt o := rfl
  refine ⟨c, fp, ⟨fun t => ?_, by rw [hget]; exact ok, rfl, by simp; omega⟩, by rw [hget]; exact Adv.refl _ _, Grew.refl _, fun id ob h => .inr ⟨ob, by rw [hget] at h; exact h⟩, rfl⟩
  rw [hget]
  simp only [getR_pars, Nat.zero_le, if_true, Nat.sub_zero]
  have hr := RVals_get r t
  have hv : (vals.toArray ++ Array.replicate (N - vals.toArray.size) undef).getD t undef = (vals[t]?).getD undef := by
    rw [Array.getD_eq_getD_getElem?]
    by_cases h : t < vals.length
    · rw [Array.getElem?_append_left (by simpa using h)]
      simp
    · have h1 : vals[t]? = none := List.getElem?_eq_none (by omega)
      rw [h1, Array.getElem?_append_right (by simpa using h)]
      rw [Array.getElem?_replicate]
      split <;> rfl
  rw [hv]; exact hr
theorem body_ok (pg : ProgOK P G) {call : CallF} {loopF : List Nat → List Nat → AC → St → Option (EX × St)} (hs : SoundC P call) (hl : SoundL P loopF) : SoundC P (body1 G call loopF) := by
  intro f args o r o' e
  unfold body1 at e
  split at e
  · rename_i p hp
    exact pg.prim f p hp args o r o' e
  · rename_i hp
    split at e
    · cases e
    · rename_i af haf
      have hk := pg.code f af hp haf
      unfold okF at hk
      split at hk
      · rename_i fn hfn
        split at hk
        · rename_i code hcode
          simp only [Bool.and_eq_true, bne_iff_ne] at hk
          obtain ⟨⟨hk1, hk2⟩, hk3⟩ := hk
          refine ⟨⟨fn, hfn, by rw [hcode]; rfl, hk3⟩, fun c fp w vals ok hr => ?_⟩
          refine calls_of_wp hfn hcode ?_
          have hinv := entry (N := fn.ntmps) ok hr
          have fin : ∀ {s' : St} {a' : Act} {w' : World}, Inv fn.ntmps c (gt o) w o.length s' a' w' → finish af.res s' = some (r, o') →
              a'.defers = [] ∧ ∃ v, (results fn a'.tmps).run P w' = .ok v w' ∧ (Shape o o' ∧ Did c (gt o) w (gt o') r (.returned v) w') := by
            intro s' a' w' inv hf
            obtain ⟨c', fp', sim, ha, hg, hdom, hn⟩ := inv
            unfold finish at hf
            split at hf
            · cases hf
            · rename_i vs hvs
              split at hf
              · cases hf
              · rename_i y ids hex
                split at hf
                · rename_i hnd
                  simp only [Option.some.injEq, Prod.mk.injEq] at hf
                  obtain ⟨rfl, rfl⟩ := hf
                  obtain ⟨vals', h1, h2, h3⟩ := resVs_ok sim hk2 hvs
                  have hlv' : ∀ i ob, s'.get i = some ob → i.1 ≤ s'.o.length := fun i ob h => get_lvl h
                  obtain ⟨f', h4, h5⟩ := finish_ok sim.st hlv' h2 h3 hex hnd
                  have hgt := gt_get s'
                  rw [← hgt] at h4 h5
                  refine ⟨sim.df, single' vals', run_results h1, ⟨hn, fun id ob h => ?_⟩, single' vals', c', fp', f', rfl, hg, by rw [hgt]; exact restrict_ok sim.st, ⟨ha.F, ha.X, fun id ob h => ?_⟩, h5, h4⟩
                  · rw [hgt] at h
                    obtain ⟨h6, h7⟩ := hideS_some h
                    rcases hdom id ob h7 with h8 | h8
                    · omega
                    · exact h8
                  · obtain ⟨ob', h6, h7⟩ := ha.st id ob h
                    refine ⟨ob', ?_, h7⟩
                    have := gt_lv o id ob h
                    rw [hgt]
                    simp only [hideS]
                    rw [if_pos (by omega)]
                    exact h6
                · cases hf
          cases hrun : run call loopF af.body ⟨pars 0 args, [], o⟩ with
          | none => rw [hrun] at e; cases e
          | some p =>
            obtain ⟨ex, s'⟩ := p
            rw [hrun] at e
            have hwp := run_ok pg.mixed hs hl (gt_lv o) af.body code _ s' ex _ w hk1 hrun hinv
            refine wp_mono hwp fun e' a' w' hq => ?_
            obtain ⟨rfl, inv'⟩ := hq
            cases ex with
            | normal => exact fin inv' e
            | ret => exact fin inv' e
            | exit m => cases e
        · cases hk
      · cases hk
theorem loop_ok (hm : P.follows .mixedOrders = true) {call : CallF} {loopF : List Nat → List Nat → AC → St → Option (EX × St)} (hs : SoundC P call) (hl : SoundL P loopF) : SoundL P (loop1 call loopF) := by
  intro lv ob ac s ex s' e N c0 S0 w0 n code a w hk hlv inv
  unfold loop1 at e
  split at e
  · rename_i ex0 s0 h0
    obtain ⟨rfl, inv0⟩ := keep_ok hlv inv h0
    cases hrun : run call loopF ac s0 with
    | none => rw [hrun] at e; cases e
    | some p =>
      obtain ⟨ex1, s1⟩ := p
      rw [hrun] at e
      refine LW.round (wp_mono (run_ok hm hs hl hlv ac code s0 s1 ex1 a w hk hrun inv0) fun e' a' w' hq => ?_)
      obtain ⟨rfl, inv1⟩ := hq
      cases ex1 with
      | normal => exact hl lv ob ac s1 ex s' e N c0 S0 w0 n code a' w' hk hlv inv1
      | exit m =>
        simp only [Option.some.injEq, Prod.mk.injEq] at e
        obtain ⟨rfl, rfl⟩ := e
        exact ⟨rfl, inv1⟩
      | ret =>
        simp only [Option.some.injEq, Prod.mk.injEq] at e
        obtain ⟨rfl, rfl⟩ := e
        exact ⟨rfl, inv1⟩
  · cases e
theorem sound_n (pg : ProgOK P G) : ∀ n, SoundC P (callN G n) ∧ SoundL P (loopN G n)
  | 0 => ⟨fun _ _ _ _ _ e => by simp [callN] at e, fun _ _ _ _ _ _ e => by simp [loopN] at e⟩
  | n + 1 => by
    obtain ⟨h1, h2⟩ := sound_n pg n
    refine ⟨fun f args o r o' e => ?_, fun lv ob ac s ex s' e => ?_⟩
    · simp only [callN] at e
      exact body_ok pg h1 h2 f args o r o' e
    · simp only [loopN] at e
      exact loop_ok pg.mixed h1 h2 lv ob ac s ex s' e
/-- SOUNDNESS. -/
theorem sound (pg : ProgOK P G) {f : Nat} {args : List PV} {o o' : Stack} {r : PV} (e : callI G f args o = some (r, o')) : Good P f args o r o' := by
  obtain ⟨n, hn⟩ := (callI_iff G).1 e
  exact (sound_n pg n).1 f args o r o' hn
end
end Go.Am
end
section
namespace Go.Am
section
variable (n d : Nat) (g : Id → Option OB) (ps : List PV)
@[simp] theorem core_move : core n d g .move ps = core1 n d g .move ps := by unfold core; rfl
@[simp] theorem core_pick : core n d g .pick ps = core1 n d g .pick ps := by unfold core; rfl
@[simp] theorem core_alloc (z) : core n d g (.alloc z) ps = core1 n d g (.alloc z) ps := by unfold core; rfl
@[simp] theorem core_box : core n d g .box ps = core1 n d g .box ps := by unfold core; rfl
@[simp] theorem core_build (z o) : core n d g (.build z o) ps = core1 n d g (.build z o) ps := by unfold core; rfl
@[simp] theorem core_bslice (k m) : core n d g (.bslice k m) ps = core1 n d g (.bslice k m) ps := by unfold core; rfl
@[simp] theorem core_load (k m) : core n d g (.load k m) ps = core1 n d g (.load k m) ps := by unfold core; rfl
@[simp] theorem core_store (k m) : core n d g (.store k m) ps = core1 n d g (.store k m) ps := by unfold core; rfl
@[simp] theorem core_bin (k) : core n d g (.bin k) ps = core1 n d g (.bin k) ps := by unfold core; rfl
@[simp] theorem core_beq : core n d g .beq ps = core1 n d g .beq ps := by unfold core; rfl
@[simp] theorem core_bne : core n d g .bne ps = core1 n d g .bne ps := by unfold core; rfl
@[simp] theorem core_not : core n d g .not ps = core1 n d g .not ps := by unfold core; rfl
@[simp] theorem core_neg : core n d g .neg ps = core1 n d g .neg ps := by unfold core; rfl
@[simp] theorem core_faddr (k) : core n d g (.faddr k) ps = core1 n d g (.faddr k) ps := by unfold core; rfl
@[simp] theorem core_iaddr (k) : core n d g (.iaddr k) ps = core1 n d g (.iaddr k) ps := by unfold core; rfl
@[simp] theorem core_iarr (k m) : core n d g (.iarr k m) ps = core1 n d g (.iarr k m) ps := by unfold core; rfl
@[simp] theorem core_idx (a b c) : core n d g (.idx a b c) ps = core1 n d g (.idx a b c) ps := by unfold core; rfl
@[simp] theorem core_istr : core n d g .istr ps = core1 n d g .istr ps := by unfold core; rfl
@[simp] theorem core_fld (a b) : core n d g (.fld a b) ps = core1 n d g (.fld a b) ps := by unfold core; rfl
@[simp] theorem core_ext (a) : core n d g (.ext a) ps = core1 n d g (.ext a) ps := by unfold core; rfl
@[simp] theorem core_len : core n d g .len ps = core1 n d g .len ps := by unfold core; rfl
@[simp] theorem core_lens : core n d g .lens ps = core1 n d g .lens ps := by unfold core; rfl
@[simp] theorem core_append (a b) : core n d g (.append a b) ps = core1 n d g (.append a b) ps := by unfold core; rfl
@[simp] theorem core_mkslice (a b) : core n d g (.mkslice a b) ps = core1 n d g (.mkslice a b) ps := by unfold core; rfl
@[simp] theorem core_mkfunc (a) : core n d g (.mkfunc a) ps = core1 n d g (.mkfunc a) ps := by unfold core; rfl
@[simp] theorem core_conv (a) : core n d g (.conv a) ps = core1 n d g (.conv a) ps := by unfold core; rfl
@[simp] theorem core_min2 : core n d g .min2 ps = core1 n d g .min2 ps := by unfold core; rfl
@[simp] theorem core_max2 : core n d g .max2 ps = core1 n d g .max2 ps := by unfold core; rfl
@[simp] theorem core_isnil : core n d g .isnil ps = core1 n d g .isnil ps := by unfold core; rfl
@[simp] theorem core_take : core n d g .take ps = core1 n d g .take ps := by unfold core; rfl
@[simp] theorem core_nck : core n d g .nck ps = core1 n d g .nck ps := by unfold core; rfl
open Classical in
@[simp] theorem core_chk (k : K) (x : PV) (xs : List PV) : core n d g (.chk k) (x :: xs) = if core1 n d g k xs = some (x, []) then some (.undef, []) else none := by unfold core; rfl
end
/-! #### one step at a time: what comes later stays folded until the state is known -/
section
variable {call : CallF} {lp : List Nat → List Nat → AC → St → Option (EX × St)}
noncomputable def seqK (call : CallF) (lp : List Nat → List Nat → AC → St → Option (EX × St)) (b : AC) : Option (EX × St) → Option (EX × St)
  | some (.normal, s') => run call lp b s'
  | r => r
noncomputable def condK (call : CallF) (lp : List Nat → List Nat → AC → St → Option (EX × St)) (a b : AC) (s : St) : PV → Option (EX × St)
  | .sc (.bool t) => if t = true then run call lp a s else run call lp b s
  | _ => none
def blockK (n : Nat) : Option (EX × St) → Option (EX × St)
  | some (.exit m, s') => if m = n then some (.normal, s') else some (.exit m, s')
  | r => r
noncomputable def stepsK (call : CallF) (r : List AI) : Option St → Option St
  | some s' => steps call s' r
  | none => none
def regK (lv ob : List Nat) : Option St → Option (EX × St)
  | some s' => fin (s'.keep lv ob)
  | none => none
def putK (s : St) (d : Option Nat) : Option (PV × List (Id × OB)) → Option St
  | some (v, ws) => some ((s.sets ws).put d v)
  | none => none
@[simp] theorem run_skip' (s : St) : run call lp .skip s = some (.normal, s) := rfl
@[simp] theorem run_reg' (o as lv ob) (s : St) : run call lp (.reg o as lv ob) s = regK lv ob (steps call s as) := by simp only [run]; cases steps call s as <;> rfl
@[simp] theorem run_seq' (a b) (s : St) : run call lp (.seq a b) s = seqK call lp b (run call lp a s) := by
  simp only [run]
  cases run call lp a s with
  | none => rfl
  | some p => obtain ⟨e, s'⟩ := p; cases e <;> rfl
@[simp] theorem run_cond' (c a b) (s : St) : run call lp (.cond c a b) s = condK call lp a b s (s.ev c) := by
  simp only [run]
  cases s.ev c with
  | sc v => cases v <;> rfl
  | _ => rfl
@[simp] theorem run_block' (n a) (s : St) : run call lp (.block n a) s = blockK n (run call lp a s) := by
  simp only [run]
  cases run call lp a s with
  | none => rfl
  | some p => obtain ⟨e, s'⟩ := p; cases e <;> rfl
@[simp] theorem run_loop' (lv ob a) (s : St) : run call lp (.loop lv ob a) s = lp lv ob a s := rfl
@[simp] theorem run_exit' (n) (s : St) : run call lp (.exit n) s = some (.exit n, s) := rfl
@[simp] theorem run_ret' (s : St) : run call lp .ret s = some (.ret, s) := rfl
@[simp] theorem seqK_n (b) (s : St) : seqK call lp b (some (.normal, s)) = run call lp b s := rfl
@[simp] theorem seqK_e (b n) (s : St) : seqK call lp b (some (.exit n, s)) = some (.exit n, s) := rfl
@[simp] theorem seqK_r (b) (s : St) : seqK call lp b (some (.ret, s)) = some (.ret, s) := rfl
@[simp] theorem seqK_o (b) : seqK call lp b none = none := rfl
@[simp] theorem condK_t (a b) (s : St) : condK call lp a b s (.sc (.bool true)) = run call lp a s := rfl
@[simp] theorem condK_f (a b) (s : St) : condK call lp a b s (.sc (.bool false)) = run call lp b s := rfl
@[simp] theorem blockK_n (n) (s : St) : blockK n (some (.normal, s)) = some (.normal, s) := rfl
@[simp] theorem blockK_e (n m) (s : St) : blockK n (some (.exit m, s)) = if m = n then some (.normal, s) else some (.exit m, s) := rfl
@[simp] theorem blockK_r (n) (s : St) : blockK n (some (.ret, s)) = some (.ret, s) := rfl
@[simp] theorem blockK_o (n) : blockK n none = none := rfl
@[simp] theorem steps_nil' (s : St) : steps call s [] = some s := rfl
theorem steps_cons' (a r) (s : St) : steps call s (a :: r) = stepsK call r (stepI call s a) := by simp only [steps]; cases stepI call s a <;> rfl
@[simp] theorem stepsK_s (r) (s : St) : stepsK call r (some s) = steps call s r := rfl
@[simp] theorem stepsK_o (r) : stepsK call r none = none := rfl
@[simp] theorem regK_s (lv ob) (s : St) : regK lv ob (some s) = fin (s.keep lv ob) := rfl
@[simp] theorem regK_o (lv ob) : regK lv ob none = none := rfl
@[simp] theorem steps_n (d k xs r) (s : St) : steps call s (⟨d, k, xs, none⟩ :: r) = stepsK call r (stepGo call s ⟨d, k, xs, none⟩) := by rw [steps_cons', stepI_eq]
@[simp] theorem go_call (s : St) (d b l xs g) : stepGo call s ⟨d, .call b l, xs, g⟩ = stepCall call s d b l (xs.map s.ev) := rfl
theorem go_op (s : St) (d k xs g) (h : isCall k = false) : stepGo call s ⟨d, k, xs, g⟩ = putK s d (core s.o.length (d.getD 999) s.get k (xs.map s.ev)) := by
  unfold stepGo
  split
  · rename_i b l hk; simp only at hk; rw [hk] at h; cases h
  · cases core s.o.length (d.getD 999) s.get k (xs.map s.ev) <;> rfl
@[simp] theorem putK_s (s : St) (d v ws) : putK s d (some (v, ws)) = (some ((s.sets ws).put d v)) := rfl
@[simp] theorem putK_o (s : St) (d) : putK s d none = none := rfl
end
@[simp] theorem go_move {call : CallF} (s : St) (d xs g) : stepGo call s ⟨d, .move, xs, g⟩ = putK s d (core1 s.o.length (d.getD 999) s.get .move (xs.map s.ev)) := by rw [go_op _ _ _ _ _ rfl, core_move]
@[simp] theorem go_pick {call : CallF} (s : St) (d xs g) : stepGo call s ⟨d, .pick, xs, g⟩ = putK s d (core1 s.o.length (d.getD 999) s.get .pick (xs.map s.ev)) := by rw [go_op _ _ _ _ _ rfl, core_pick]
@[simp] theorem go_alloc (z) {call : CallF} (s : St) (d xs g) : stepGo call s ⟨d, (.alloc z), xs, g⟩ = putK s d (core1 s.o.length (d.getD 999) s.get (.alloc z) (xs.map s.ev)) := by rw [go_op _ _ _ _ _ rfl, core_alloc]
@[simp] theorem go_box {call : CallF} (s : St) (d xs g) : stepGo call s ⟨d, .box, xs, g⟩ = putK s d (core1 s.o.length (d.getD 999) s.get .box (xs.map s.ev)) := by rw [go_op _ _ _ _ _ rfl, core_box]
@[simp] theorem go_build (z o) {call : CallF} (s : St) (d xs g) : stepGo call s ⟨d, (.build z o), xs, g⟩ = putK s d (core1 s.o.length (d.getD 999) s.get (.build z o) (xs.map s.ev)) := by rw [go_op _ _ _ _ _ rfl, core_build]
@[simp] theorem go_bslice (k m) {call : CallF} (s : St) (d xs g) : stepGo call s ⟨d, (.bslice k m), xs, g⟩ = putK s d (core1 s.o.length (d.getD 999) s.get (.bslice k m) (xs.map s.ev)) := by rw [go_op _ _ _ _ _ rfl, core_bslice]
@[simp] theorem go_load (k m) {call : CallF} (s : St) (d xs g) : stepGo call s ⟨d, (.load k m), xs, g⟩ = putK s d (core1 s.o.length (d.getD 999) s.get (.load k m) (xs.map s.ev)) := by rw [go_op _ _ _ _ _ rfl, core_load]
@[simp] theorem go_store (k m) {call : CallF} (s : St) (d xs g) : stepGo call s ⟨d, (.store k m), xs, g⟩ = putK s d (core1 s.o.length (d.getD 999) s.get (.store k m) (xs.map s.ev)) := by rw [go_op _ _ _ _ _ rfl, core_store]
@[simp] theorem go_bin (k) {call : CallF} (s : St) (d xs g) : stepGo call s ⟨d, (.bin k), xs, g⟩ = putK s d (core1 s.o.length (d.getD 999) s.get (.bin k) (xs.map s.ev)) := by rw [go_op _ _ _ _ _ rfl, core_bin]
@[simp] theorem go_beq {call : CallF} (s : St) (d xs g) : stepGo call s ⟨d, .beq, xs, g⟩ = putK s d (core1 s.o.length (d.getD 999) s.get .beq (xs.map s.ev)) := by rw [go_op _ _ _ _ _ rfl, core_beq]
@[simp] theorem go_bne {call : CallF} (s : St) (d xs g) : stepGo call s ⟨d, .bne, xs, g⟩ = putK s d (core1 s.o.length (d.getD 999) s.get .bne (xs.map s.ev)) := by rw [go_op _ _ _ _ _ rfl, core_bne]
@[simp] theorem go_not {call : CallF} (s : St) (d xs g) : stepGo call s ⟨d, .not, xs, g⟩ = putK s d (core1 s.o.length (d.getD 999) s.get .not (xs.map s.ev)) := by rw [go_op _ _ _ _ _ rfl, core_not]
@[simp] theorem go_neg {call : CallF} (s : St) (d xs g) : stepGo call s ⟨d, .neg, xs, g⟩ = putK s d (core1 s.o.length (d.getD 999) s.get .neg (xs.map s.ev)) := by rw [go_op _ _ _ _ _ rfl, core_neg]
@[simp] theorem go_faddr (k) {call : CallF} (s : St) (d xs g) : stepGo call s ⟨d, (.faddr k), xs, g⟩ = putK s d (core1 s.o.length (d.getD 999) s.get (.faddr k) (xs.map s.ev)) := by rw [go_op _ _ _ _ _ rfl, core_faddr]
@[simp] theorem go_iaddr (k) {call : CallF} (s : St) (d xs g) : stepGo call s ⟨d, (.iaddr k), xs, g⟩ = putK s d (core1 s.o.length (d.getD 999) s.get (.iaddr k) (xs.map s.ev)) := by rw [go_op _ _ _ _ _ rfl, core_iaddr]
@[simp] theorem go_iarr (k m) {call : CallF} (s : St) (d xs g) : stepGo call s ⟨d, (.iarr k m), xs, g⟩ = putK s d (core1 s.o.length (d.getD 999) s.get (.iarr k m) (xs.map s.ev)) := by rw [go_op _ _ _ _ _ rfl, core_iarr]
@[simp] theorem go_idx (a b c) {call : CallF} (s : St) (d xs g) : stepGo call s ⟨d, (.idx a b c), xs, g⟩ = putK s d (core1 s.o.length (d.getD 999) s.get (.idx a b c) (xs.map s.ev)) := by rw [go_op _ _ _ _ _ rfl, core_idx]
@[simp] theorem go_istr {call : CallF} (s : St) (d xs g) : stepGo call s ⟨d, .istr, xs, g⟩ = putK s d (core1 s.o.length (d.getD 999) s.get .istr (xs.map s.ev)) := by rw [go_op _ _ _ _ _ rfl, core_istr]
@[simp] theorem go_fld (a b) {call : CallF} (s : St) (d xs g) : stepGo call s ⟨d, (.fld a b), xs, g⟩ = putK s d (core1 s.o.length (d.getD 999) s.get (.fld a b) (xs.map s.ev)) := by rw [go_op _ _ _ _ _ rfl, core_fld]
@[simp] theorem go_ext (a) {call : CallF} (s : St) (d xs g) : stepGo call s ⟨d, (.ext a), xs, g⟩ = putK s d (core1 s.o.length (d.getD 999) s.get (.ext a) (xs.map s.ev)) := by rw [go_op _ _ _ _ _ rfl, core_ext]
@[simp] theorem go_len {call : CallF} (s : St) (d xs g) : stepGo call s ⟨d, .len, xs, g⟩ = putK s d (core1 s.o.length (d.getD 999) s.get .len (xs.map s.ev)) := by rw [go_op _ _ _ _ _ rfl, core_len]
@[simp] theorem go_lens {call : CallF} (s : St) (d xs g) : stepGo call s ⟨d, .lens, xs, g⟩ = putK s d (core1 s.o.length (d.getD 999) s.get .lens (xs.map s.ev)) := by rw [go_op _ _ _ _ _ rfl, core_lens]
@[simp] theorem go_append (a b) {call : CallF} (s : St) (d xs g) : stepGo call s ⟨d, (.append a b), xs, g⟩ = putK s d (core1 s.o.length (d.getD 999) s.get (.append a b) (xs.map s.ev)) := by rw [go_op _ _ _ _ _ rfl, core_append]
@[simp] theorem go_mkslice (a b) {call : CallF} (s : St) (d xs g) : stepGo call s ⟨d, (.mkslice a b), xs, g⟩ = putK s d (core1 s.o.length (d.getD 999) s.get (.mkslice a b) (xs.map s.ev)) := by rw [go_op _ _ _ _ _ rfl, core_mkslice]
@[simp] theorem go_mkfunc (a) {call : CallF} (s : St) (d xs g) : stepGo call s ⟨d, (.mkfunc a), xs, g⟩ = putK s d (core1 s.o.length (d.getD 999) s.get (.mkfunc a) (xs.map s.ev)) := by rw [go_op _ _ _ _ _ rfl, core_mkfunc]
@[simp] theorem go_conv (a) {call : CallF} (s : St) (d xs g) : stepGo call s ⟨d, (.conv a), xs, g⟩ = putK s d (core1 s.o.length (d.getD 999) s.get (.conv a) (xs.map s.ev)) := by rw [go_op _ _ _ _ _ rfl, core_conv]
@[simp] theorem go_min2 {call : CallF} (s : St) (d xs g) : stepGo call s ⟨d, .min2, xs, g⟩ = putK s d (core1 s.o.length (d.getD 999) s.get .min2 (xs.map s.ev)) := by rw [go_op _ _ _ _ _ rfl, core_min2]
@[simp] theorem go_max2 {call : CallF} (s : St) (d xs g) : stepGo call s ⟨d, .max2, xs, g⟩ = putK s d (core1 s.o.length (d.getD 999) s.get .max2 (xs.map s.ev)) := by rw [go_op _ _ _ _ _ rfl, core_max2]
@[simp] theorem go_isnil {call : CallF} (s : St) (d xs g) : stepGo call s ⟨d, .isnil, xs, g⟩ = putK s d (core1 s.o.length (d.getD 999) s.get .isnil (xs.map s.ev)) := by rw [go_op _ _ _ _ _ rfl, core_isnil]
@[simp] theorem go_take {call : CallF} (s : St) (d xs g) : stepGo call s ⟨d, .take, xs, g⟩ = putK s d (core1 s.o.length (d.getD 999) s.get .take (xs.map s.ev)) := by rw [go_op _ _ _ _ _ rfl, core_take]
@[simp] theorem go_nck {call : CallF} (s : St) (d xs g) : stepGo call s ⟨d, .nck, xs, g⟩ = putK s d (core1 s.o.length (d.getD 999) s.get .nck (xs.map s.ev)) := by rw [go_op _ _ _ _ _ rfl, core_nck]
@[simp] theorem go_chk (k : K) {call : CallF} (s : St) (d xs g) : stepGo call s ⟨d, .chk k, xs, g⟩ = putK s d (core s.o.length (d.getD 999) s.get (.chk k) (xs.map s.ev)) := go_op _ _ _ _ _ rfl
/-! #### the operations, by the forms of their operands -/
section
variable (n d : Nat) (g : Id → Option OB)
def guardK (b : Bool) (r : Option (PV × List (Id × OB))) : Option (PV × List (Id × OB)) := if b = true then r else none
@[simp] theorem guardK_t (r) : guardK true r = r := rfl
@[simp] theorem guardK_f (r) : guardK false r = none := rfl
@[simp] theorem c_move (x) : core1 n d g .move [x] = some (x, []) := rfl
@[simp] theorem c_pick (c a b) : core1 n d g .pick [.sc (.bool c), a, b] = some (if c = true then a else b, []) := rfl
@[simp] theorem c_alloc (z) : core1 n d g (.alloc z) [] = if (g (n, d)).isNone = true then some (.ref (n, d) 1 0 0, [((n, d), .box z)]) else none := rfl
@[simp] theorem c_box (x) : core1 n d g .box [x] = if ((g (n, d)).isNone && sure x) = true then some (.ref (n, d) 1 0 0, [((n, d), .box x.cells)]) else none := rfl
def aggK : Option (List PV) → Option (PV × List (Id × OB))
  | some cs => some (.agg cs, [])
  | none => none
@[simp] theorem aggK_s (cs) : aggK (some cs) = some (.agg cs, []) := rfl
@[simp] theorem c_build (z offs xs) : core1 n d g (.build z offs) xs = aggK (buildC z offs xs) := by
  simp only [core1]; cases buildC z offs xs <;> rfl
@[simp] theorem buildC_nil (z) : buildC z [] [] = some z := rfl
@[simp] theorem buildC_cons (z o m os x xs) : buildC z ((o, m) :: os) (x :: xs) = if x.cells.length = m ∧ o + m ≤ z.length ∧ sure x = true then buildC (putC z o x.cells) os xs else none := rfl
def bsK (n d k : Nat) (e : Bool) : Option (List PV × List (Id × OB)) → Option (PV × List (Id × OB))
  | some (ys, ws) => if (nodupId ws && e && ys.all (fun y => decide (y.cells.length = k))) = true then some (.own (n, d) ys.length, ws ++ [((n, d), .row k ys)]) else none
  | none => none
@[simp] theorem bsK_s (k e ys ws) : bsK n d k e (some (ys, ws)) = if (nodupId ws && e && ys.all (fun y => decide (y.cells.length = k))) = true then some (.own (n, d) ys.length, ws ++ [((n, d), .row k ys)]) else none := rfl
@[simp] theorem c_bslice0 (k mv) : core1 n d g (.bslice k mv) [] = some (.nils, []) := rfl
@[simp] theorem c_bslice (k mv x xs) : core1 n d g (.bslice k mv) (x :: xs) = bsK n d k (g (n, d)).isNone (packEs mv g (x :: xs)) := by
  simp only [core1]; rcases packEs mv g (x :: xs) with _ | ⟨ys, ws⟩ <;> rfl
def ldC (ok : Bool) : Option PV → Option (PV × List (Id × OB))
  | some v => if ok = true then some (v, []) else none
  | none => none
def ldB (k : Option Nat) (j : Nat) (b : Bool) : Option (List PV) → Option (PV × List (Id × OB))
  | some cs => ldC (plains cs || b) (takeC k cs j)
  | none => none
def ldA (k : Option Nat) (m i j : Nat) : Option OB → Option (PV × List (Id × OB))
  | some ob => ldB k j ob.isBox (ob.elem m i)
  | none => none
@[simp] theorem ldC_s (ok v) : ldC ok (some v) = if ok = true then some (v, []) else none := rfl
@[simp] theorem ldB_s (k j b cs) : ldB k j b (some cs) = ldC (plains cs || b) (takeC k cs j) := rfl
@[simp] theorem ldA_s (k m i j ob) : ldA k m i j (some ob) = ldB k j ob.isBox (ob.elem m i) := rfl
@[simp] theorem c_loadr (k tk id m i j) : core1 n d g (.load k tk) [.ref id m i j] = ldA k m i j (g id) := by
  simp only [core1]
  cases g id with
  | none => rfl
  | some ob => simp only [ldA]; cases ob.elem m i with
    | none => rfl
    | some cs => simp only [ldB]; cases takeC k cs j <;> rfl
@[simp] theorem c_loadi (k tk cs j) : core1 n d g (.load k tk) [.iref cs j] = ldC true (takeC k cs j) := by
  simp only [core1]; cases takeC k cs j <;> rfl
def stC (id : Id) (k w i j : Nat) (xs : List PV) (ys : List PV) (ws : List (Id × OB)) : Option PV → Option (PV × List (Id × OB))
  | some e => if ys.length = w ∧ j + w ≤ e.cells.length then some (.undef, ws ++ [(id, .row k (xs.set i (unAgg e (putC e.cells j ys))))]) else none
  | none => none
def stB (id : Id) (k w i j : Nat) (xs : List PV) : Option (List PV × List (Id × OB)) → Option (PV × List (Id × OB))
  | some (ys, ws) => if nodupId ((id, .dead) :: ws) = true then stC id k w i j xs ys ws (nth xs i) else none
  | none => none
def stA (g : Id → Option OB) (id : Id) (w : Nat) (mv : Bool) (m i j : Nat) (x : PV) : Option OB → Option (PV × List (Id × OB))
  | some (.box cs) => if x.cells.length = w ∧ sure x = true ∧ m = 1 ∧ i = 0 ∧ j + w ≤ cs.length ∧ upTos id.1 x.cells = true then some (.undef, [(id, .box (putC cs j x.cells))]) else none
  | some (.row k xs) => if m = xs.length then stB id k w i j xs (packs mv g x.cells) else none
  | _ => none
@[simp] theorem stC_s (id k w i j xs ys ws e) : stC id k w i j xs ys ws (some e) = if ys.length = w ∧ j + w ≤ e.cells.length then some (.undef, ws ++ [(id, .row k (xs.set i (unAgg e (putC e.cells j ys))))]) else none := rfl
@[simp] theorem stB_s (id k w i j xs ys ws) : stB id k w i j xs (some (ys, ws)) = if nodupId ((id, .dead) :: ws) = true then stC id k w i j xs ys ws (nth xs i) else none := rfl
@[simp] theorem stA_b (id w mv m i j x cs) : stA g id w mv m i j x (some (.box cs)) = if x.cells.length = w ∧ sure x = true ∧ m = 1 ∧ i = 0 ∧ j + w ≤ cs.length ∧ upTos id.1 x.cells = true then some (.undef, [(id, .box (putC cs j x.cells))]) else none := rfl
@[simp] theorem stA_r (id w mv m i j x k xs) : stA g id w mv m i j x (some (.row k xs)) = if m = xs.length then stB id k w i j xs (packs mv g x.cells) else none := rfl
@[simp] theorem c_store (w mv id m i j x) : core1 n d g (.store w mv) [.ref id m i j, x] = stA g id w mv m i j x (g id) := by
  simp only [core1]
  rcases g id with _ | ob
  · rfl
  · cases ob <;> rfl
def someK : Option PV → Option (PV × List (Id × OB))
  | some v => some (v, [])
  | none => none
@[simp] theorem someK_s (v) : someK (some v) = some (v, []) := rfl
@[simp] theorem c_bin (op x y) : core1 n d g (.bin op) [x, y] = someK (bin op x y) := by
  simp only [core1]; cases bin op x y <;> rfl
@[simp] theorem b_add (k a b) : bin .add (.sc (.int k a)) (.sc (.int k b)) = some (.sc (.int k (k.wrap (a + b)))) := by simp [bin]
@[simp] theorem b_sub (k a b) : bin .sub (.sc (.int k a)) (.sc (.int k b)) = some (.sc (.int k (k.wrap (a - b)))) := by simp [bin]
@[simp] theorem b_mul (k a b) : bin .mul (.sc (.int k a)) (.sc (.int k b)) = some (.sc (.int k (k.wrap (a * b)))) := by simp [bin]
@[simp] theorem b_quo (k a b) : bin .quo (.sc (.int k a)) (.sc (.int k b)) = if b = 0 then none else some (.sc (.int k (k.wrap (a.tdiv b)))) := by simp [bin]
@[simp] theorem b_rem (k a b) : bin .rem (.sc (.int k a)) (.sc (.int k b)) = if b = 0 then none else some (.sc (.int k (a.tmod b))) := by simp [bin]
@[simp] theorem b_eq (k a b) : bin .eq (.sc (.int k a)) (.sc (.int k b)) = some (.b (decide (a = b))) := by simp [bin]; rfl
@[simp] theorem b_ne (k a b) : bin .ne (.sc (.int k a)) (.sc (.int k b)) = some (.b (decide (¬ a = b))) := by
  simp only [bin, if_true]; congr 3; simp [bne]; rfl
@[simp] theorem b_lt (k a b) : bin .lt (.sc (.int k a)) (.sc (.int k b)) = some (.b (decide (a < b))) := by simp [bin]
@[simp] theorem b_le (k a b) : bin .le (.sc (.int k a)) (.sc (.int k b)) = some (.b (decide (a ≤ b))) := by simp [bin]
@[simp] theorem b_gt (k a b) : bin .gt (.sc (.int k a)) (.sc (.int k b)) = some (.b (decide (b < a))) := by simp [bin]
@[simp] theorem b_ge (k a b) : bin .ge (.sc (.int k a)) (.sc (.int k b)) = some (.b (decide (b ≤ a))) := by simp [bin]
@[simp] theorem b_adds (a b) : bin .add (.sc (.string a)) (.sc (.string b)) = if a.size + b.size ≤ 9223372036854775807 then some (.s (a ++ b)) else none := rfl
@[simp] theorem b_eqs (a b) : bin .eq (.sc (.string a)) (.sc (.string b)) = some (.b (a.toList == b.toList)) := rfl
@[simp] theorem b_nes (a b) : bin .ne (.sc (.string a)) (.sc (.string b)) = some (.b (!(a.toList == b.toList))) := rfl
@[simp] theorem b_lts (a b) : bin .lt (.sc (.string a)) (.sc (.string b)) = some (.b (Op.bytesLess a.toList b.toList)) := rfl
@[simp] theorem c_beq (a b) : core1 n d g .beq [.sc (.bool a), .sc (.bool b)] = some (.b (a == b), []) := rfl
@[simp] theorem c_bne (a b) : core1 n d g .bne [.sc (.bool a), .sc (.bool b)] = some (.b (!(a == b)), []) := rfl
@[simp] theorem c_not (b) : core1 n d g .not [.sc (.bool b)] = some (.b (!b), []) := rfl
@[simp] theorem c_neg (k a) : core1 n d g .neg [.sc (.int k a)] = some (.sc (.int k (k.wrap (0 - a))), []) := rfl
@[simp] theorem c_faddr (off id m i j) : core1 n d g (.faddr off) [.ref id m i j] = if live g id m i = true then some (.ref id m i (j + off), []) else none := rfl
@[simp] theorem c_faddri (off cs j) : core1 n d g (.faddr off) [.iref cs j] = some (.iref cs (j + off), []) := rfl
def irK : Option PV → Option (PV × List (Id × OB))
  | some e => some (.iref e.cells 0, [])
  | none => none
@[simp] theorem irK_s (e) : irK (some e) = some (.iref e.cells 0, []) := rfl
@[simp] theorem c_iaddr (es k xs i) : core1 n d g (.iaddr es) [.sl false k xs, .sc (.int .i64 i)] = if k = es ∧ ib i xs.length = true then irK (nth xs i.toNat) else none := by
  simp only [core1]; cases nth xs i.toNat <;> rfl
def iaK (id : Id) (es m : Nat) (i : Int) : Option OB → Option (PV × List (Id × OB))
  | some (.row k xs) => if k = es ∧ m = xs.length ∧ ib i m = true then some (.ref id m i.toNat 0, []) else none
  | some (.frz k xs) => if k = es ∧ m = xs.length ∧ ib i m = true then irK (nth xs i.toNat) else none
  | _ => none
@[simp] theorem iaK_r (id es m i k xs) : iaK id es m i (some (.row k xs)) = if k = es ∧ m = xs.length ∧ ib i m = true then some (.ref id m i.toNat 0, []) else none := rfl
@[simp] theorem iaK_f (id es m i k xs) : iaK id es m i (some (.frz k xs)) = if k = es ∧ m = xs.length ∧ ib i m = true then irK (nth xs i.toNat) else none := rfl
@[simp] theorem c_iaddro (es id m i) : core1 n d g (.iaddr es) [.own id m, .sc (.int .i64 i)] = iaK id es m i (g id) := by
  simp only [core1]
  rcases g id with _ | ob
  · rfl
  · cases ob <;> rfl
@[simp] theorem c_iarr (es m id a b j i) : core1 n d g (.iarr es m) [.ref id a b j, .sc (.int .i64 i)] = if (live g id a b && ib i m) = true then some (.ref id a b (j + i.toNat * es), []) else none := rfl
@[simp] theorem c_iarri (es m cs j i) : core1 n d g (.iarr es m) [.iref cs j, .sc (.int .i64 i)] = if ib i m = true then some (.iref cs (j + i.toNat * es), []) else none := rfl
@[simp] theorem c_idx (k es m cs i) : core1 n d g (.idx k es m) [.agg cs, .sc (.int .i64 i)] = if ib i m = true then ldC true (takeC k cs (i.toNat * es)) else none := by
  simp only [core1]; cases takeC k cs (i.toNat * es) <;> rfl
@[simp] theorem c_istr (b i) : core1 n d g .istr [.sc (.string b), .sc (.int .i64 i)] = if h : 0 ≤ i ∧ i.toNat < b.size then some (.sc (.int .u8 (b[i.toNat]'h.2).toNat), []) else none := rfl
@[simp] theorem c_fld (k off cs) : core1 n d g (.fld k off) [.agg cs] = ldC true (takeC k cs off) := by
  simp only [core1]; cases takeC k cs off <;> rfl
def exK : Option PV → Option (PV × List (Id × OB))
  | some (.tup _) => none
  | some v => some (v, [])
  | none => none
@[simp] theorem exK_sc (v) : exK (some (.sc v)) = some (.sc v, []) := rfl
@[simp] theorem exK_agg (v) : exK (some (.agg v)) = some (.agg v, []) := rfl
@[simp] theorem exK_nils : exK (some .nils) = some (.nils, []) := rfl
@[simp] theorem exK_sl (u k v) : exK (some (.sl u k v)) = some (.sl u k v, []) := rfl
@[simp] theorem exK_own (u k) : exK (some (.own u k)) = some (.own u k, []) := rfl
@[simp] theorem exK_ref (a b c e) : exK (some (.ref a b c e)) = some (.ref a b c e, []) := rfl
@[simp] theorem c_ext (i vs) : core1 n d g (.ext i) [.tup vs] = exK vs[i]? := by
  simp only [core1]; rcases vs[i]? with _ | v
  · rfl
  · cases v <;> rfl
@[simp] theorem c_lensl (u k xs) : core1 n d g .len [.sl u k xs] = some (.i xs.length, []) := rfl
@[simp] theorem c_lennil : core1 n d g .len [.nils] = some (.i 0, []) := rfl
def lenK (m : Nat) : Option OB → Option (PV × List (Id × OB))
  | some (.row _ xs) => if m = xs.length then some (.i m, []) else none
  | some (.frz _ xs) => if m = xs.length then some (.i m, []) else none
  | _ => none
@[simp] theorem lenK_r (m k xs) : lenK m (some (.row k xs)) = if m = xs.length then some (.i m, []) else none := rfl
@[simp] theorem lenK_f (m k xs) : lenK m (some (.frz k xs)) = if m = xs.length then some (.i m, []) else none := rfl
@[simp] theorem c_lenown (id m) : core1 n d g .len [.own id m] = lenK m (g id) := by
  simp only [core1]; rcases g id with _ | ob
  · rfl
  · cases ob <;> rfl
@[simp] theorem c_lens (b) : core1 n d g .lens [.sc (.string b)] = some (.i b.size, []) := rfl
def apO (id : Id) (k m : Nat) (ys : List PV) (ws : List (Id × OB)) : Option OB → Option (PV × List (Id × OB))
  | some (.row k' xs) => if k' = k ∧ m = xs.length ∧ nodupId ((id, OB.dead) :: ws) = true ∧ xs.length + ys.length ≤ 4294967296 then some (.own id (xs.length + ys.length), ws ++ [(id, .row k (xs ++ ys))]) else none
  | _ => none
@[simp] theorem apO_r (id k m ys ws k' xs) : apO id k m ys ws (some (.row k' xs)) = if k' = k ∧ m = xs.length ∧ nodupId ((id, OB.dead) :: ws) = true ∧ xs.length + ys.length ≤ 4294967296 then some (.own id (xs.length + ys.length), ws ++ [(id, .row k (xs ++ ys))]) else none := rfl
def apNil (n d k : Nat) (e : Bool) : Option (List PV × List (Id × OB)) → Option (PV × List (Id × OB))
  | some (ys, ws) => if ys.length ≤ 4294967296 ∧ e = true then some (.own (n, d) ys.length, ws ++ [((n, d), .row k ys)]) else none
  | none => none
@[simp] theorem apNil_s (k e ys ws) : apNil n d k e (some (ys, ws)) = if ys.length ≤ 4294967296 ∧ e = true then some (.own (n, d) ys.length, ws ++ [((n, d), .row k ys)]) else none := rfl
def apOwn (g : Id → Option OB) (id : Id) (k m : Nat) : Option (List PV × List (Id × OB)) → Option (PV × List (Id × OB))
  | some (ys, ws) => apO id k m ys ws (g id)
  | none => none
@[simp] theorem apOwn_s (id k m ys ws) : apOwn g id k m (some (ys, ws)) = apO id k m ys ws (g id) := rfl
@[simp] theorem c_appnil (k cons x) : core1 n d g (.append k cons) [.nils, x] = apNil n d k (g (n, d)).isNone (srcOf g k cons x) := by
  simp only [core1]; rcases srcOf g k cons x with _ | ⟨ys, ws⟩ <;> rfl
@[simp] theorem c_appown (k cons id m x) : core1 n d g (.append k cons) [.own id m, x] = apOwn g id k m (srcOf g k cons x) := by
  simp only [core1]; rcases srcOf g k cons x with _ | ⟨ys, ws⟩
  · rfl
  · simp only [apOwn]; rcases g id with _ | ob
    · rfl
    · cases ob <;> rfl
@[simp] theorem c_mkslice (k z m c) : core1 n d g (.mkslice k z) [.sc (.int .i64 m), .sc (.int .i64 c)] = if m = c ∧ 0 ≤ m ∧ m ≤ 4294967296 ∧ (g (n, d)).isNone = true then some (.own (n, d) m.toNat, [((n, d), .row k (List.replicate m.toNat z))]) else none := rfl
@[simp] theorem c_mkfunc (f xs) : core1 n d g (.mkfunc f) xs = if xs.all (fun x => sure x && cellP x) = true then some (.clo f xs, []) else none := rfl
@[simp] theorem c_conv (k k' a) : core1 n d g (.conv k) [.sc (.int k' a)] = some (.sc (.int k (k.wrap a)), []) := rfl
@[simp] theorem c_min2 (a b) : core1 n d g .min2 [.sc (.int .i64 a), .sc (.int .i64 b)] = some (.i (if b < a then b else a), []) := rfl
@[simp] theorem c_max2 (a b) : core1 n d g .max2 [.sc (.int .i64 a), .sc (.int .i64 b)] = some (.i (if a < b then b else a), []) := rfl
@[simp] theorem c_isnil (u k x xs y) : core1 n d g .isnil [.sl u k (x :: xs), y] = some (.b false, []) := rfl
def tkC (n d : Nat) (id : Id) (k i j : Nat) (xs : List PV) (e : PV) : Option PV → Option (PV × List (Id × OB))
  | some (.sl true k' ys) => some (.own (n, d) ys.length, [(id, .row k (xs.set i (unAgg e (e.cells.set j .undef)))), ((n, d), .row k' ys)])
  | _ => none
def tkB (n d : Nat) (id : Id) (k i j : Nat) (xs : List PV) : Option PV → Option (PV × List (Id × OB))
  | some e => tkC n d id k i j xs e (nth e.cells j)
  | none => none
def tkA (n d : Nat) (id : Id) (m i j : Nat) (fresh : Bool) : Option OB → Option (PV × List (Id × OB))
  | some (.row k xs) => if m = xs.length ∧ fresh = true then tkB n d id k i j xs (nth xs i) else none
  | _ => none
@[simp] theorem tkC_s (id k i j xs e k' ys) : tkC n d id k i j xs e (some (.sl true k' ys)) = some (.own (n, d) ys.length, [(id, .row k (xs.set i (unAgg e (e.cells.set j .undef)))), ((n, d), .row k' ys)]) := rfl
@[simp] theorem tkB_s (id k i j xs e) : tkB n d id k i j xs (some e) = tkC n d id k i j xs e (nth e.cells j) := rfl
@[simp] theorem tkA_s (id m i j fresh k xs) : tkA n d id m i j fresh (some (.row k xs)) = if m = xs.length ∧ fresh = true then tkB n d id k i j xs (nth xs i) else none := rfl
@[simp] theorem nth_0 (x xs) : nth (x :: xs) 0 = some x := rfl
@[simp] theorem nth_s (x xs i) : nth (x :: xs) (i + 1) = nth xs i := by simp [nth]
@[simp] theorem nth_1 (x y xs) : nth (x :: y :: xs) 1 = some y := rfl
@[simp] theorem nth_2 (x y z xs) : nth (x :: y :: z :: xs) 2 = some z := rfl
@[simp] theorem nth_3 (x y z u xs) : nth (x :: y :: z :: u :: xs) 3 = some u := rfl
@[simp] theorem nth_4 (x y z u v xs) : nth (x :: y :: z :: u :: v :: xs) 4 = some v := rfl
@[simp] theorem nth_5 (x y z u v a xs) : nth (x :: y :: z :: u :: v :: a :: xs) 5 = some a := rfl
@[simp] theorem c_take (id m i j) : core1 n d g .take [.ref id m i j] = tkA n d id m i j (g (n, d)).isNone (g id) := by
  simp only [core1]
  rcases g id with _ | ob
  · rfl
  · cases ob <;> rfl
@[simp] theorem c_ncki (cs j) : core1 n d g .nck [.iref cs j] = some (.iref cs j, []) := rfl
@[simp] theorem c_nckc (f caps) : core1 n d g .nck [.clo f caps] = some (.clo f caps, []) := rfl
@[simp] theorem c_nckr (id m i j) : core1 n d g .nck [.ref id m i j] = if live g id m i = true then some (.ref id m i j, []) else none := rfl
end
/-! #### a branch on a condition that stays -/
section
variable {call : CallF} {lp : List Nat → List Nat → AC → St → Option (EX × St)}
variable {p : Prop} [Decidable p]
@[simp] theorem condK_b (a b) (s : St) (t : Bool) : condK call lp a b s (.sc (.bool t)) = if t = true then run call lp a s else run call lp b s := rfl
@[simp] theorem condK_i (a b) (s : St) (x y) : condK call lp a b s (if p then x else y) = if p then condK call lp a b s x else condK call lp a b s y := by split <;> rfl
@[simp] theorem seqK_i (b) (x y) : seqK call lp b (if p then x else y) = if p then seqK call lp b x else seqK call lp b y := by split <;> rfl
@[simp] theorem blockK_i (n) (x y) : blockK n (if p then x else y) = if p then blockK n x else blockK n y := by split <;> rfl
@[simp] theorem stepsK_i (r) (x y) : stepsK call r (if p then x else y) = if p then stepsK call r x else stepsK call r y := by split <;> rfl
@[simp] theorem regK_i (lv ob) (x y) : regK lv ob (if p then x else y) = if p then regK lv ob x else regK lv ob y := by split <;> rfl
@[simp] theorem putK_i (s : St) (d) (x y) : putK s d (if p then x else y) = if p then putK s d x else putK s d y := by split <;> rfl
def setR : Regs → Nat → PV → Regs
  | [], _, _ => []
  | (k, v) :: r, t, x => if k = t then (k, x) :: r else (k, v) :: setR r t x
@[simp] theorem setR_cons (k v r t x) : setR ((k, v) :: r) t x = if k = t then (k, x) :: r else (k, v) :: setR r t x := rfl
theorem setR_get : ∀ (r : Regs) (t : Nat), setR r t (getR r t) = r
  | [], _ => rfl
  | (k, v) :: r, t => by
    simp only [setR, getR]
    by_cases h : k = t <;> simp [h, setR_get r t]
/-- A guarded step and what follows: the guard's value stands in its register. -/
noncomputable def gsK (call : CallF) (s : St) (a : AI) (r : List AI) (j : Nat) (w : Bool) (v : PV) : Option St :=
  stepsK call r (match v with
    | .sc (.bool b) => if b = w then stepGo call { s with r := setR s.r j v } a else some (({ s with r := setR s.r j v } : St).put a.d .non)
    | .non => some (({ s with r := setR s.r j v } : St).put a.d .non)
    | _ => none)
@[simp] theorem steps_g (d k xs j w r) (s : St) : steps call s (⟨d, k, xs, some (j, w)⟩ :: r) = gsK call s ⟨d, k, xs, some (j, w)⟩ r j w (getR s.r j) := by
  generalize hv : getR s.r j = v
  have h : ({ s with r := setR s.r j v } : St) = s := by rw [← hv, setR_get]
  unfold gsK
  rw [steps_cons', h, stepI_eq]
  dsimp only
  rw [hv]
  all_goals (cases v with
    | sc u => cases u <;> rfl
    | _ => rfl)
@[simp high] theorem gsK_tt (s : St) (a r j) : gsK call s a r j true (.sc (.bool true)) = stepsK call r (stepGo call { s with r := setR s.r j (.sc (.bool true)) } a) := rfl
@[simp high] theorem gsK_tf (s : St) (a r j) : gsK call s a r j true (.sc (.bool false)) = steps call (({ s with r := setR s.r j (.sc (.bool false)) } : St).put a.d .non) r := rfl
@[simp high] theorem gsK_ft (s : St) (a r j) : gsK call s a r j false (.sc (.bool true)) = steps call (({ s with r := setR s.r j (.sc (.bool true)) } : St).put a.d .non) r := rfl
@[simp high] theorem gsK_ff (s : St) (a r j) : gsK call s a r j false (.sc (.bool false)) = stepsK call r (stepGo call { s with r := setR s.r j (.sc (.bool false)) } a) := rfl
@[simp] theorem gsK_n (s : St) (a r j w) : gsK call s a r j w .non = steps call (({ s with r := setR s.r j .non } : St).put a.d .non) r := rfl
@[simp] theorem gsK_b (s : St) (a r j w c) : gsK call s a r j w (.sc (.bool c)) = if c = true then gsK call s a r j w (.sc (.bool true)) else gsK call s a r j w (.sc (.bool false)) := by cases c <;> rfl
@[simp] theorem merge1 (e : EX) (k0 : Nat) (a0 b0 : PV) (l o) : (if p then some (e, St.mk [(k0, a0)] l o) else some (e, St.mk [(k0, b0)] l o)) = some (e, St.mk [(k0, if p then a0 else b0)] l o) := by split <;> rfl
@[simp] theorem merge2 (e : EX) (k0 k1 : Nat) (a0 a1 b0 b1 : PV) (l o) : (if p then some (e, St.mk [(k0, a0), (k1, a1)] l o) else some (e, St.mk [(k0, b0), (k1, b1)] l o)) = some (e, St.mk [(k0, if p then a0 else b0), (k1, if p then a1 else b1)] l o) := by split <;> rfl
@[simp] theorem merge3 (e : EX) (k0 k1 k2 : Nat) (a0 a1 a2 b0 b1 b2 : PV) (l o) : (if p then some (e, St.mk [(k0, a0), (k1, a1), (k2, a2)] l o) else some (e, St.mk [(k0, b0), (k1, b1), (k2, b2)] l o)) = some (e, St.mk [(k0, if p then a0 else b0), (k1, if p then a1 else b1), (k2, if p then a2 else b2)] l o) := by split <;> rfl
@[simp] theorem merge4 (e : EX) (k0 k1 k2 k3 : Nat) (a0 a1 a2 a3 b0 b1 b2 b3 : PV) (l o) : (if p then some (e, St.mk [(k0, a0), (k1, a1), (k2, a2), (k3, a3)] l o) else some (e, St.mk [(k0, b0), (k1, b1), (k2, b2), (k3, b3)] l o)) = some (e, St.mk [(k0, if p then a0 else b0), (k1, if p then a1 else b1), (k2, if p then a2 else b2), (k3, if p then a3 else b3)] l o) := by split <;> rfl
@[simp] theorem merge5 (e : EX) (k0 k1 k2 k3 k4 : Nat) (a0 a1 a2 a3 a4 b0 b1 b2 b3 b4 : PV) (l o) : (if p then some (e, St.mk [(k0, a0), (k1, a1), (k2, a2), (k3, a3), (k4, a4)] l o) else some (e, St.mk [(k0, b0), (k1, b1), (k2, b2), (k3, b3), (k4, b4)] l o)) = some (e, St.mk [(k0, if p then a0 else b0), (k1, if p then a1 else b1), (k2, if p then a2 else b2), (k3, if p then a3 else b3), (k4, if p then a4 else b4)] l o) := by split <;> rfl
@[simp] theorem merge6 (e : EX) (k0 k1 k2 k3 k4 k5 : Nat) (a0 a1 a2 a3 a4 a5 b0 b1 b2 b3 b4 b5 : PV) (l o) : (if p then some (e, St.mk [(k0, a0), (k1, a1), (k2, a2), (k3, a3), (k4, a4), (k5, a5)] l o) else some (e, St.mk [(k0, b0), (k1, b1), (k2, b2), (k3, b3), (k4, b4), (k5, b5)] l o)) = some (e, St.mk [(k0, if p then a0 else b0), (k1, if p then a1 else b1), (k2, if p then a2 else b2), (k3, if p then a3 else b3), (k4, if p then a4 else b4), (k5, if p then a5 else b5)] l o) := by split <;> rfl
@[simp] theorem merge7 (e : EX) (k0 k1 k2 k3 k4 k5 k6 : Nat) (a0 a1 a2 a3 a4 a5 a6 b0 b1 b2 b3 b4 b5 b6 : PV) (l o) : (if p then some (e, St.mk [(k0, a0), (k1, a1), (k2, a2), (k3, a3), (k4, a4), (k5, a5), (k6, a6)] l o) else some (e, St.mk [(k0, b0), (k1, b1), (k2, b2), (k3, b3), (k4, b4), (k5, b5), (k6, b6)] l o)) = some (e, St.mk [(k0, if p then a0 else b0), (k1, if p then a1 else b1), (k2, if p then a2 else b2), (k3, if p then a3 else b3), (k4, if p then a4 else b4), (k5, if p then a5 else b5), (k6, if p then a6 else b6)] l o) := by split <;> rfl
@[simp] theorem merge8 (e : EX) (k0 k1 k2 k3 k4 k5 k6 k7 : Nat) (a0 a1 a2 a3 a4 a5 a6 a7 b0 b1 b2 b3 b4 b5 b6 b7 : PV) (l o) : (if p then some (e, St.mk [(k0, a0), (k1, a1), (k2, a2), (k3, a3), (k4, a4), (k5, a5), (k6, a6), (k7, a7)] l o) else some (e, St.mk [(k0, b0), (k1, b1), (k2, b2), (k3, b3), (k4, b4), (k5, b5), (k6, b6), (k7, b7)] l o)) = some (e, St.mk [(k0, if p then a0 else b0), (k1, if p then a1 else b1), (k2, if p then a2 else b2), (k3, if p then a3 else b3), (k4, if p then a4 else b4), (k5, if p then a5 else b5), (k6, if p then a6 else b6), (k7, if p then a7 else b7)] l o) := by split <;> rfl
@[simp] theorem merge9 (e : EX) (k0 k1 k2 k3 k4 k5 k6 k7 k8 : Nat) (a0 a1 a2 a3 a4 a5 a6 a7 a8 b0 b1 b2 b3 b4 b5 b6 b7 b8 : PV) (l o) : (if p then some (e, St.mk [(k0, a0), (k1, a1), (k2, a2), (k3, a3), (k4, a4), (k5, a5), (k6, a6), (k7, a7), (k8, a8)] l o) else some (e, St.mk [(k0, b0), (k1, b1), (k2, b2), (k3, b3), (k4, b4), (k5, b5), (k6, b6), (k7, b7), (k8, b8)] l o)) = some (e, St.mk [(k0, if p then a0 else b0), (k1, if p then a1 else b1), (k2, if p then a2 else b2), (k3, if p then a3 else b3), (k4, if p then a4 else b4), (k5, if p then a5 else b5), (k6, if p then a6 else b6), (k7, if p then a7 else b7), (k8, if p then a8 else b8)] l o) := by split <;> rfl
@[simp] theorem merge10 (e : EX) (k0 k1 k2 k3 k4 k5 k6 k7 k8 k9 : Nat) (a0 a1 a2 a3 a4 a5 a6 a7 a8 a9 b0 b1 b2 b3 b4 b5 b6 b7 b8 b9 : PV) (l o) : (if p then some (e, St.mk [(k0, a0), (k1, a1), (k2, a2), (k3, a3), (k4, a4), (k5, a5), (k6, a6), (k7, a7), (k8, a8), (k9, a9)] l o) else some (e, St.mk [(k0, b0), (k1, b1), (k2, b2), (k3, b3), (k4, b4), (k5, b5), (k6, b6), (k7, b7), (k8, b8), (k9, b9)] l o)) = some (e, St.mk [(k0, if p then a0 else b0), (k1, if p then a1 else b1), (k2, if p then a2 else b2), (k3, if p then a3 else b3), (k4, if p then a4 else b4), (k5, if p then a5 else b5), (k6, if p then a6 else b6), (k7, if p then a7 else b7), (k8, if p then a8 else b8), (k9, if p then a9 else b9)] l o) := by split <;> rfl
@[simp] theorem merge11 (e : EX) (k0 k1 k2 k3 k4 k5 k6 k7 k8 k9 k10 : Nat) (a0 a1 a2 a3 a4 a5 a6 a7 a8 a9 a10 b0 b1 b2 b3 b4 b5 b6 b7 b8 b9 b10 : PV) (l o) : (if p then some (e, St.mk [(k0, a0), (k1, a1), (k2, a2), (k3, a3), (k4, a4), (k5, a5), (k6, a6), (k7, a7), (k8, a8), (k9, a9), (k10, a10)] l o) else some (e, St.mk [(k0, b0), (k1, b1), (k2, b2), (k3, b3), (k4, b4), (k5, b5), (k6, b6), (k7, b7), (k8, b8), (k9, b9), (k10, b10)] l o)) = some (e, St.mk [(k0, if p then a0 else b0), (k1, if p then a1 else b1), (k2, if p then a2 else b2), (k3, if p then a3 else b3), (k4, if p then a4 else b4), (k5, if p then a5 else b5), (k6, if p then a6 else b6), (k7, if p then a7 else b7), (k8, if p then a8 else b8), (k9, if p then a9 else b9), (k10, if p then a10 else b10)] l o) := by split <;> rfl
@[simp] theorem merge12 (e : EX) (k0 k1 k2 k3 k4 k5 k6 k7 k8 k9 k10 k11 : Nat) (a0 a1 a2 a3 a4 a5 a6 a7 a8 a9 a10 a11 b0 b1 b2 b3 b4 b5 b6 b7 b8 b9 b10 b11 : PV) (l o) : (if p then some (e, St.mk [(k0, a0), (k1, a1), (k2, a2), (k3, a3), (k4, a4), (k5, a5), (k6, a6), (k7, a7), (k8, a8), (k9, a9), (k10, a10), (k11, a11)] l o) else some (e, St.mk [(k0, b0), (k1, b1), (k2, b2), (k3, b3), (k4, b4), (k5, b5), (k6, b6), (k7, b7), (k8, b8), (k9, b9), (k10, b10), (k11, b11)] l o)) = some (e, St.mk [(k0, if p then a0 else b0), (k1, if p then a1 else b1), (k2, if p then a2 else b2), (k3, if p then a3 else b3), (k4, if p then a4 else b4), (k5, if p then a5 else b5), (k6, if p then a6 else b6), (k7, if p then a7 else b7), (k8, if p then a8 else b8), (k9, if p then a9 else b9), (k10, if p then a10 else b10), (k11, if p then a11 else b11)] l o) := by split <;> rfl
@[simp] theorem merge13 (e : EX) (k0 k1 k2 k3 k4 k5 k6 k7 k8 k9 k10 k11 k12 : Nat) (a0 a1 a2 a3 a4 a5 a6 a7 a8 a9 a10 a11 a12 b0 b1 b2 b3 b4 b5 b6 b7 b8 b9 b10 b11 b12 : PV) (l o) : (if p then some (e, St.mk [(k0, a0), (k1, a1), (k2, a2), (k3, a3), (k4, a4), (k5, a5), (k6, a6), (k7, a7), (k8, a8), (k9, a9), (k10, a10), (k11, a11), (k12, a12)] l o) else some (e, St.mk [(k0, b0), (k1, b1), (k2, b2), (k3, b3), (k4, b4), (k5, b5), (k6, b6), (k7, b7), (k8, b8), (k9, b9), (k10, b10), (k11, b11), (k12, b12)] l o)) = some (e, St.mk [(k0, if p then a0 else b0), (k1, if p then a1 else b1), (k2, if p then a2 else b2), (k3, if p then a3 else b3), (k4, if p then a4 else b4), (k5, if p then a5 else b5), (k6, if p then a6 else b6), (k7, if p then a7 else b7), (k8, if p then a8 else b8), (k9, if p then a9 else b9), (k10, if p then a10 else b10), (k11, if p then a11 else b11), (k12, if p then a12 else b12)] l o) := by split <;> rfl
@[simp] theorem merge14 (e : EX) (k0 k1 k2 k3 k4 k5 k6 k7 k8 k9 k10 k11 k12 k13 : Nat) (a0 a1 a2 a3 a4 a5 a6 a7 a8 a9 a10 a11 a12 a13 b0 b1 b2 b3 b4 b5 b6 b7 b8 b9 b10 b11 b12 b13 : PV) (l o) : (if p then some (e, St.mk [(k0, a0), (k1, a1), (k2, a2), (k3, a3), (k4, a4), (k5, a5), (k6, a6), (k7, a7), (k8, a8), (k9, a9), (k10, a10), (k11, a11), (k12, a12), (k13, a13)] l o) else some (e, St.mk [(k0, b0), (k1, b1), (k2, b2), (k3, b3), (k4, b4), (k5, b5), (k6, b6), (k7, b7), (k8, b8), (k9, b9), (k10, b10), (k11, b11), (k12, b12), (k13, b13)] l o)) = some (e, St.mk [(k0, if p then a0 else b0), (k1, if p then a1 else b1), (k2, if p then a2 else b2), (k3, if p then a3 else b3), (k4, if p then a4 else b4), (k5, if p then a5 else b5), (k6, if p then a6 else b6), (k7, if p then a7 else b7), (k8, if p then a8 else b8), (k9, if p then a9 else b9), (k10, if p then a10 else b10), (k11, if p then a11 else b11), (k12, if p then a12 else b12), (k13, if p then a13 else b13)] l o) := by split <;> rfl
@[simp] theorem ifb (a b : Bool) : (if p then PV.sc (.bool a) else PV.sc (.bool b)) = PV.sc (.bool (if p then a else b)) := by split <;> rfl
@[simp] theorem ifn (k : IntKind) (a b : Int) : (if p then PV.sc (.int k a) else PV.sc (.int k b)) = PV.sc (.int k (if p then a else b)) := by split <;> rfl
noncomputable def bodyK (res : List RV) : Option (EX × St) → Option (PV × Stack)
  | some (.ret, s) => finish res s
  | some (.normal, s) => finish res s
  | _ => none
@[simp] theorem bodyK_r (res) (s : St) : bodyK res (some (.ret, s)) = finish res s := rfl
@[simp] theorem bodyK_n (res) (s : St) : bodyK res (some (.normal, s)) = finish res s := rfl
@[simp] theorem bodyK_o (res) : bodyK res none = none := rfl
@[simp] theorem bodyK_i (res) (x y) : bodyK res (if p then x else y) = if p then bodyK res x else bodyK res y := by split <;> rfl
theorem body1_eq {G : Prog} {f : Nat} {af : AF} (args o) (hp : G.prim f = none) (hc : G.code f = some af) : body1 G call lp f args o = bodyK af.res (run call lp af.body ⟨pars 0 args, [], o⟩) := by
  simp only [body1, hp, hc]
  rcases run call lp af.body ⟨pars 0 args, [], o⟩ with _ | ⟨e, s⟩
  · rfl
  · cases e <;> rfl
noncomputable def loopK (lp : List Nat → List Nat → AC → St → Option (EX × St)) (lv ob : List Nat) (a : AC) : Option (EX × St) → Option (EX × St)
  | some (.normal, s') => lp lv ob a s'
  | r => r
@[simp] theorem loopK_n (lv ob a) (s : St) : loopK lp lv ob a (some (.normal, s)) = lp lv ob a s := rfl
@[simp] theorem loopK_r (lv ob a) (s : St) : loopK lp lv ob a (some (.ret, s)) = some (.ret, s) := rfl
@[simp] theorem loopK_e (lv ob a n) (s : St) : loopK lp lv ob a (some (.exit n, s)) = some (.exit n, s) := rfl
@[simp] theorem loopK_o (lv ob a) : loopK lp lv ob a none = none := rfl
@[simp] theorem loopK_i (lv ob a) (x y) : loopK lp lv ob a (if p then x else y) = if p then loopK lp lv ob a x else loopK lp lv ob a y := by split <;> rfl
noncomputable def loop0 (call : CallF) (lp : List Nat → List Nat → AC → St → Option (EX × St)) (lv ob : List Nat) (a : AC) : Option (EX × St) → Option (EX × St)
  | some (_, s0) => loopK lp lv ob a (run call lp a s0)
  | none => none
@[simp] theorem loop0_s (lv ob a e) (s : St) : loop0 call lp lv ob a (some (e, s)) = loopK lp lv ob a (run call lp a s) := rfl
@[simp] theorem loop1_k (lv ob a) (s : St) : loop1 call lp lv ob a s = loop0 call lp lv ob a (fin (s.keep lv ob)) := by
  simp only [loop1]
  rcases fin (s.keep lv ob) with _ | ⟨e, s0⟩
  · rfl
  · simp only [loop0]
    rcases run call lp a s0 with _ | ⟨e, s'⟩
    · rfl
    · cases e <;> rfl
end
attribute [simp] pars St.ev getR St.put St.get St.sets St.set setO getO fin St.keep okObjs known knowns finish resVs resV single expo expoE expoEs expos expoC expo1 nodupI stepCall snapA snapE snap snaps rowIdA rowIdE rowId rowIds callBy noRef noRefs atLvl atLvls land impo impoE impoEs impos impo1 freshAll nodupId frzs thaws noShare noShares takeC OB.elem PV.cells sure cellP plain plains OB.isBox upTo upTos putC packE packEs pack1 packs live ib fal fals srcOf
end Go.Am
end
section
/- What a row's argument reads as. -/
set_option linter.unusedSimpArgs false
set_option linter.unusedVariables false
namespace Go.Am
open Go.RowKit
/-- The context in which everything that is there is frozen. -/
def cAll (w : World) : Ctx := ⟨hp w, fun _ => ⟨0, none, 0⟩, fun _ => none⟩
theorem cAll_ok (w : World) : StOK (cAll w) (gt []) (hp w) (fun _ => []) := by
  have hg : ∀ id ob, gt [] id = some ob → False := fun id ob h => by rw [gt_nil] at h; cases h
  refine ⟨fun id ob h => (hg id ob h).elim, fun id ob h => (hg id ob h).elim, fun id id' ob ob' h => (hg id ob h).elim, fun id ob h => (hg id ob h).elim, ?_, fun _ _ _ => rfl⟩
  rintro b o (h | h)
  · exact h
  · cases h
def isAg (P : Program) (t : TypeId) : Bool := match P.underlying t with | some (.struct _) | some (.array _ _) => true | _ => false
def mkE (P : Program) (e : TypeId) (cs : List PV) : PV := if isAg P e then .agg cs else cs.headD .undef
def TyF (r : TypeId → List PV → Prop) : List Field → List PV → Prop
  | [], xs => xs = []
  | f :: fs, xs => ∃ a b, xs = a ++ b ∧ r f.type a ∧ TyF r fs b
/-- Cells of a type. -/
def Ty (P : Program) : Nat → TypeId → List PV → Prop
  | 0, _, _ => False
  | n + 1, t, xs => match P.underlying t with
    | some .bool => ∃ b, xs = [.b b]
    | some (.int k) => ∃ m, xs = [.sc (.int k m)] ∧ (Lit.int k m).wf = true
    | some .string => ∃ s : ByteArray, xs = [.s s] ∧ s.size ≤ maxLen
    | some (.slice e) => ∃ css : List (List PV), xs = [.sl false (P.cellsOf e) (css.map (mkE P e))] ∧ css.length ≤ maxLen ∧ ∀ cs ∈ css, Ty P n e cs
    | some (.struct fs) => TyF (Ty P n) fs.toList xs
    | _ => False
def lay (P : Program) : Nat → List Field → Option Nat
  | o, [] => some o
  | o, f :: r => if f.offset = o then lay P (o + P.cellsOf f.type) r else none
/-- Types that data alone are made of. -/
def closedB (P : Program) (Ts : List TypeId) : Bool := Ts.all fun t => match P.underlying t with
  | some .bool | some (.int _) | some .string => P.cellsOf t == 1
  | some (.slice e) => P.cellsOf t == 1 && Ts.contains e && decide (0 < P.cellsOf e)
  | some (.struct fs) => lay P 0 fs.toList == some (P.cellsOf t) && fs.toList.all (fun f => Ts.contains f.type)
  | _ => false
section
variable {P : Program} {H : Type} {enc : TypeId × Value → H} {w : World}
theorem mapM_range {α : Type} {f : Nat → Option α} : ∀ {n o : Nat} {xs : List α}, (List.range' o n).mapM f = some xs → xs.length = n ∧ ∀ i, i < n → ∃ x, xs[i]? = some x ∧ f (o + i) = some x
  | 0, o, xs, h => by
    simp at h
    subst h
    exact ⟨rfl, fun i hi => by omega⟩
  | n + 1, o, xs, h => by
    simp only [List.range'_succ, List.mapM_cons, Option.pure_def, Option.bind_eq_bind] at h
    obtain ⟨x, h1, h2⟩ := Option.bind_eq_some_iff.1 h
    obtain ⟨ys, h3, h4⟩ := Option.bind_eq_some_iff.1 h2
    simp only [Option.some.injEq] at h4
    subst h4
    obtain ⟨h5, h6⟩ := mapM_range h3
    refine ⟨by simp [h5], fun i hi => ?_⟩
    cases i with
    | zero => exact ⟨x, by simp, by simpa using h1⟩
    | succ i =>
      obtain ⟨y, h7, h8⟩ := h6 i (by omega)
      exact ⟨y, by simpa using h7, by rw [← h8]; congr 1; omega⟩
theorem mkE_R {c : Ctx} {S : Sto} {h : Hp} {e : TypeId} {xs : List PV} {vs : List Value} (hl : isAg P e = true ∨ xs.length = 1) (hc : xs.all cellP = true) (r : Rs c S h xs vs []) :
    R c S h (mkE P e xs) vs [] ∧ (mkE P e xs).cells = xs ∧ flatE (mkE P e xs) = true ∧ tree (mkE P e xs) = trees xs := by
  unfold mkE
  by_cases ha : isAg P e = true
  · rw [if_pos ha]
    exact ⟨⟨hc, r⟩, rfl, by simpa [flatE] using hc, rfl⟩
  · rw [if_neg ha]
    have hl := hl.resolve_left ha
    obtain ⟨x, rfl⟩ : ∃ x, xs = [x] := by
      cases xs with
      | nil => simp at hl
      | cons x l => cases l with | nil => exact ⟨x, rfl⟩ | cons _ _ => simp at hl
    obtain ⟨v1, v2, f1, f2, rfl, hf, r1, r2⟩ := r
    simp only [Rs] at r2
    obtain ⟨rfl, rfl⟩ := r2
    simp only [List.append_nil] at hf
    subst hf
    simp only [List.headD_cons, List.append_nil]
    simp only [List.all_cons, List.all_nil, Bool.and_true] at hc
    refine ⟨r1, ?_, ?_, ?_⟩ <;> cases x <;> simp [cellP, flatE, PV.cells, trees] at hc ⊢
def RdOK (P : Program) (w : World) (n : Nat) (t : TypeId) (cs : List Value) (xs : List PV) : Prop := Ty P n t xs ∧ Rs (cAll w) (gt []) (hp w) xs cs [] ∧ xs.all cellP = true ∧ trees xs = true ∧ xs.length = P.cellsOf t
theorem addr_add (a : Addr) (m n : Nat) : (a.add m).add n = a.add (m + n) := by
  unfold Addr.add
  by_cases hm : m = 0 <;> by_cases hn : n = 0 <;> simp [hm, hn, Nat.add_assoc]
theorem read_elems {n : Nat} {e : TypeId} {a : Addr} {base : Nat} {q : List Value → Option (DataW H × List MemPlace)} (hel : isAg P e = true ∨ P.cellsOf e = 1) (ih : ∀ cs d ps, q cs = some (d, ps) → ∃ xs, RdOK P w n e cs xs) :
    ∀ {m o : Nat} {elems : List (DataW H × List MemPlace)}, (List.range' o m).mapM (fun i => (w.cells? base (a.add (i * P.cellsOf e)) (P.cellsOf e)).bind q) = some elems →
      ∃ (css : List (List PV)) (ws : List Value), css.length = m ∧ (∀ c ∈ css, Ty P n e c ∧ c.length = P.cellsOf e ∧ flatE (mkE P e c) = true ∧ (mkE P e c).cells = c) ∧ Rs (cAll w) (gt []) (hp w) (css.map (mkE P e)) ws [] ∧ trees (css.map (mkE P e)) = true ∧ ws.length = m * P.cellsOf e ∧
        ∀ j u, ws[j]? = some u → w.cell? (a.add (o * P.cellsOf e + j)) = some u
  | 0, o, elems, h => ⟨[], [], rfl, fun c hc => (by cases hc), ⟨rfl, rfl⟩, rfl, by simp, fun j u hj => by simp at hj⟩
  | m + 1, o, elems, h => by
    simp only [List.range'_succ, List.mapM_cons, Option.pure_def, Option.bind_eq_bind] at h
    obtain ⟨x, h1, h2⟩ := Option.bind_eq_some_iff.1 h
    obtain ⟨ys, h3, h4⟩ := Option.bind_eq_some_iff.1 h2
    obtain ⟨cells, h5, h6⟩ := Option.bind_eq_some_iff.1 h1
    obtain ⟨d, ps⟩ := x
    obtain ⟨xs, g1, g2, g3, g4, g5⟩ := ih cells d ps h6
    obtain ⟨css, ws, k1, k2, k3, k4, k5, k6⟩ := read_elems hel ih h3
    have hel' : isAg P e = true ∨ xs.length = 1 := hel.imp (fun h => h) (fun h => by rw [g5, h])
    obtain ⟨e1, e2, e3, e4⟩ := mkE_R (P := P) (e := e) hel' g3 g2
    have hcl : cells.length = P.cellsOf e := by rw [(Rs_cells_len g3 g2).1, g5]
    refine ⟨xs :: css, cells ++ ws, by simp [k1], fun c hc => ?_, ⟨cells, ws, [], [], rfl, rfl, e1, k3⟩, by simp [trees, e4, g4, k4], by simp [hcl, k5, Nat.add_mul]; omega, fun j u hj => ?_⟩
    · rcases List.mem_cons.1 hc with rfl | hc
      · exact ⟨g1, g5, e3, e2⟩
      · exact k2 c hc
    · by_cases hjc : j < cells.length
      · rw [List.getElem?_append_left hjc] at hj
        unfold World.cells? at h5
        split at h5
        · rw [List.range_eq_range'] at h5
          obtain ⟨_, h8⟩ := mapM_range h5
          obtain ⟨v, h9, h10⟩ := h8 j (by omega)
          rw [hj] at h9
          simp only [Option.some.injEq] at h9
          subst h9
          rw [addr_add, Nat.zero_add] at h10
          exact h10
        · cases h5
      · rw [List.getElem?_append_right (by omega)] at hj
        have := k6 _ _ hj
        rw [← this]
        congr 2
        rw [hcl, Nat.add_mul]
        omega
theorem read_fields {n : Nat} {cs : List Value} {tot : Nat} {q : TypeId → List Value → Option (DataW H × List MemPlace)} (htot : cs.length = tot) :
    ∀ {fl : List Field} {o : Nat} {ys : List (DataW H × List MemPlace)}, (∀ f ∈ fl, ∀ cs d ps, q f.type cs = some (d, ps) → ∃ xs, RdOK P w n f.type cs xs) → lay P o fl = some tot → fl.mapM (fun f => q f.type ((cs.drop f.offset).take (P.cellsOf f.type))) = some ys →
      ∃ xs, TyF (Ty P n) fl xs ∧ Rs (cAll w) (gt []) (hp w) xs (cs.drop o) [] ∧ xs.all cellP = true ∧ trees xs = true ∧ xs.length + o = tot
  | [], o, ys, _, hl, h => by
    simp only [lay, Option.some.injEq] at hl
    subst hl
    exact ⟨[], rfl, ⟨List.drop_eq_nil_of_le (by omega), rfl⟩, rfl, rfl, by simp⟩
  | f :: fl, o, ys, ih, hl, h => by
    simp only [lay] at hl
    split at hl
    · rename_i ho
      simp only [List.mapM_cons, Option.pure_def, Option.bind_eq_bind] at h
      obtain ⟨x, h1, h2⟩ := Option.bind_eq_some_iff.1 h
      obtain ⟨zs, h3, h4⟩ := Option.bind_eq_some_iff.1 h2
      obtain ⟨d, ps⟩ := x
      rw [ho] at h1
      obtain ⟨xs, g1, g2, g3, g4, g5⟩ := ih f List.mem_cons_self _ d ps h1
      obtain ⟨xs2, k1, k2, k3, k4, k5⟩ := read_fields htot (fun f hf => ih f (List.mem_cons_of_mem _ hf)) hl h3
      refine ⟨xs ++ xs2, ⟨xs, xs2, rfl, g1, k1⟩, ?_, by simp [g3, k3], trees_append g4 k4, by simp [g5]; omega⟩
      rw [Rs_append]
      refine ⟨(cs.drop o).take (P.cellsOf f.type), cs.drop (o + P.cellsOf f.type), [], [], ?_, rfl, g2, k2⟩
      rw [← List.drop_drop, List.take_append_drop]
    · cases hl
/-- What reads as data of a plain type stands there as a tree. -/
theorem read {Ts : List TypeId} (hc : closedB P Ts = true) {base : Nat} {sp : Nat → Bool} {held : Bool} : ∀ (fuel : Nat) (t : TypeId) (cs : List Value) (d : DataW H) (ps : List MemPlace), t ∈ Ts → DataW.trod enc P w base sp held fuel t cs = some (d, ps) → ∃ xs, RdOK P w fuel t cs xs
  | 0, _, _, _, _, _, h => by simp [DataW.trod] at h
  | fuel + 1, t, cs, d, ps, ht, h => by
    have hcl := List.all_eq_true.1 hc t ht
    cases hu : P.underlying t with
    | none => rw [hu] at hcl; cases hcl
    | some ud =>
      rw [hu] at hcl
      cases ud <;> simp only at hcl <;> try (cases hcl; done)
      case bool =>
        have hc1 := eq_of_beq hcl
        rcases cs with _ | ⟨v, _ | ⟨u, r⟩⟩
        · simp [DataW.trod, hu] at h
        · cases v <;> simp [DataW.trod, hu] at h
          rename_i b
          exact ⟨[.b b], by simp only [Ty, hu]; exact ⟨_, rfl⟩, ⟨[_], [], [], [], rfl, rfl, ⟨rfl, rfl, rfl⟩, rfl, rfl⟩, rfl, rfl, by simp [hc1]⟩
        · simp [DataW.trod, hu] at h
      case int k =>
        have hc1 := eq_of_beq hcl
        rcases cs with _ | ⟨v, _ | ⟨u, r⟩⟩
        · simp [DataW.trod, hu] at h
        · cases v <;> simp [DataW.trod, hu] at h
          rename_i k' m
          obtain ⟨⟨rfl, hw⟩, _⟩ := h
          exact ⟨[.sc (.int _ m)], by simp only [Ty, hu]; exact ⟨_, rfl, hw⟩, ⟨[_], [], [], [], rfl, rfl, ⟨rfl, rfl, rfl⟩, rfl, rfl⟩, rfl, rfl, by simp [hc1]⟩
        · simp [DataW.trod, hu] at h
      case string =>
        have hc1 := eq_of_beq hcl
        rcases cs with _ | ⟨v, _ | ⟨u, r⟩⟩
        · simp [DataW.trod, hu] at h
        · cases v <;> simp [DataW.trod, hu] at h
          rename_i b
          exact ⟨[.s b], by simp only [Ty, hu]; exact ⟨_, rfl, h.1⟩, ⟨[_], [], [], [], rfl, rfl, ⟨rfl, rfl, rfl⟩, rfl, rfl⟩, rfl, rfl, by simp [hc1]⟩
        · simp [DataW.trod, hu] at h
      case slice e =>
        simp only [Bool.and_eq_true, decide_eq_true_eq] at hcl
        obtain ⟨⟨hc1, hc2⟩, hc3⟩ := hcl
        have hc1 := eq_of_beq hc1
        have he : e ∈ Ts := by simpa using hc2
        have hel : isAg P e = true ∨ P.cellsOf e = 1 := by
          have := List.all_eq_true.1 hc e he
          unfold isAg
          cases hue : P.underlying e with
          | none => rw [hue] at this; cases this
          | some ue => cases ue <;> rw [hue] at this <;> simp only at this <;> first | (cases this; done) | exact .inl rfl | exact .inr (eq_of_beq this) | (simp only [Bool.and_eq_true] at this; exact .inr (eq_of_beq this.1.1))
        have isel : (∃ v, cs = [v]) ∨ ∀ v, cs ≠ [v] := by
          by_cases h : ∃ v, cs = [v]
          · exact .inl h
          · exact .inr fun v hv => h ⟨v, hv⟩
        rcases cs with _ | ⟨v, _ | ⟨u, r⟩⟩
        · simp [DataW.trod, hu] at h
        · cases v <;> try (simp [DataW.trod, hu] at h; done)
          rename_i A len cap
          have empty : len = 0 → cap = 0 ∨ True → ∃ xs, RdOK P w (fuel + 1) t [.slice A len cap] xs := by
            rintro rfl _
            refine ⟨[.sl false (P.cellsOf e) []], by simp only [Ty, hu]; exact ⟨[], rfl, Nat.zero_le _, fun c hc => (by cases hc)⟩, ⟨[_], [], [], [], rfl, rfl, ⟨rfl, fun x hx => (by cases hx), rfl, A, cap, rfl, .inl rfl⟩, rfl, rfl⟩, rfl, rfl, by simp [hc1]⟩
          by_cases hl0 : len = 0
          · exact empty hl0 (.inr trivial)
          · cases A with
            | none =>
              exfalso
              cases len with
              | zero => exact hl0 rfl
              | succ m => simp [DataW.trod, hu] at h
            | some a =>
              have h' : len ≤ cap ∧ cap ≤ maxLen ∧ ∃ elems, (List.range len).mapM (fun i => (w.cells? base (a.add (i * P.cellsOf e)) (P.cellsOf e)).bind (DataW.trod enc P w base sp held fuel e)) = some elems := by
                simp only [DataW.trod, hu] at h
                split at h
                · rename_i hb
                  obtain ⟨elems, h1, _⟩ := Option.bind_eq_some_iff.1 h
                  exact ⟨hb.2.1, hb.2.2, elems, h1⟩
                · cases h
              obtain ⟨h1, h2, elems, h3⟩ := h'
              rw [List.range_eq_range'] at h3
              obtain ⟨css, ws, k1, k2, k3, k4, k5, k6⟩ := read_elems (n := fuel) hel (fun cs d ps hq => read hc fuel e cs d ps he hq) h3
              simp only [Nat.zero_mul, Nat.zero_add] at k6
              -- the block
              have hpos : 0 < ws.length := by rw [k5]; exact Nat.mul_pos (by omega) hc3
              have hc0 := k6 0 ws[0] (List.getElem?_eq_getElem hpos)
              have hblk : ∃ cur et fr, hp w a.block = some (.cells cur et fr) ∧ a.spot = none := by
                have ha0 : a.add 0 = a := by simp [Addr.add]
                rw [ha0] at hc0
                unfold World.cell? at hc0
                split at hc0
                · rename_i cur et fr hh
                  split at hc0
                  · cases hc0
                  · rename_i hsp
                    exact ⟨cur, et, fr, hh, by simpa using hsp⟩
                · cases hc0
              obtain ⟨cur, et, fr, hb, hsp⟩ := hblk
              have hcells : ∀ j u, ws[j]? = some u → cur.toList[a.off + j]? = some u := by
                intro j u hj
                have := k6 j u hj
                have hadd : a.add j = ⟨a.block, a.off + j, none⟩ := by
                  unfold Addr.add
                  split
                  · rename_i h0; subst h0; cases a; simp_all
                  · rfl
                rw [hadd, cell_of_block hb] at this
                simpa using this
              have htake : (cur.toList.drop a.off).take (css.length * P.cellsOf e) = ws := by
                apply List.ext_getElem?
                intro j
                rw [List.getElem?_take]
                by_cases hj : j < css.length * P.cellsOf e
                · rw [if_pos hj, List.getElem?_drop]
                  have hj2 : j < ws.length := by rw [k5, ← k1]; exact hj
                  rw [hcells j ws[j] (List.getElem?_eq_getElem hj2), List.getElem?_eq_getElem hj2]
                · rw [if_neg hj, List.getElem?_eq_none (by rw [k5, ← k1]; omega)]
              refine ⟨[.sl false (P.cellsOf e) (css.map (mkE P e))], by simp only [Ty, hu]; exact ⟨css, rfl, by omega, fun c hc => (k2 c hc).1⟩, ⟨[_], [], [], [], rfl, rfl, ⟨k4, fun x hx => ?_, rfl, some a, cap, by simp [k1], .inr ⟨a.block, a.off, cur, et, fr, ws, ?_, hb, k3, ?_⟩⟩, rfl, rfl⟩, rfl, by simpa [trees, tree] using k4, by simp [hc1]⟩
              · obtain ⟨c, hcm, rfl⟩ := List.mem_map.1 hx
                obtain ⟨q1, q2, q3, q4⟩ := k2 c hcm
                exact ⟨by rw [q4, q2], q3⟩
              · cases a; simp_all
              · rw [List.length_map]; exact htake
        · simp [DataW.trod, hu] at h
      case struct fs =>
        simp only [Bool.and_eq_true] at hcl
        obtain ⟨hc1, hc2⟩ := hcl
        have hc1 := eq_of_beq hc1
        have h' : cs.length = P.cellsOf t ∧ ∃ ys, fs.toList.mapM (fun f => DataW.trod enc P w base sp held fuel f.type ((cs.drop f.offset).take (P.cellsOf f.type))) = some ys := by
          have h2 : DataW.trod enc P w base sp held (fuel + 1) t cs = (if cs.length = P.cellsOf t then (fs.toList.mapM fun f => DataW.trod enc P w base sp held fuel f.type ((cs.drop f.offset).take (P.cellsOf f.type))).map fun xs => (.agg (xs.map (·.1)), xs.flatMap (·.2)) else none) := by
            simp only [DataW.trod, hu]
          rw [h2] at h
          split at h
          · rename_i hl
            obtain ⟨ys, h3, _⟩ := Option.map_eq_some_iff.1 h
            exact ⟨hl, ys, h3⟩
          · cases h
        obtain ⟨hl, ys, h3⟩ := h'
        obtain ⟨xs, k1, k2, k3, k4, k5⟩ := read_fields (n := fuel) (q := DataW.trod enc P w base sp held fuel) hl (fun f hf cs d ps hq => read hc fuel f.type cs d ps (by have := List.all_eq_true.1 hc2 f hf; simpa using this) hq) hc1 h3
        exact ⟨xs, by simp only [Ty, hu]; exact k1, by simpa using k2, k3, k4, by simpa using k5⟩
end
end Go.Am
end
section
/- A law that the machine finds true holds. -/
set_option linter.unusedSimpArgs false
set_option linter.unusedVariables false
namespace Go.Am
open Go.RowKit
theorem keptBut_same {W W' : World} (ho : W'.os = W.os) (hu : W'.output = W.output) (hb : ∀ b o, hp W b = some o → hp W' b = some o) (may : MemPlace → Prop) : W.keptBut W' may := by
  refine ⟨ho, hu, fun i hi => ?_⟩
  have h1 : W.heap[i]? = some W.heap[i] := Array.getElem?_eq_getElem hi
  have h2 := hb i _ h1
  simp only [hp] at h2
  rw [h1, h2]
  cases W.heap[i] <;> simp
theorem sameAt_of {W W' : World} (hb : ∀ b o, hp W b = some o → hp W' b = some o) {p : MemPlace} (hlt : p.block < W.heap.size) : W.sameAt W' p := by
  have h1 : W.heap[p.block]? = some W.heap[p.block] := Array.getElem?_eq_getElem hlt
  have h2 := hb p.block _ h1
  simp only [hp] at h2
  cases p with
  | cell b o => exact World.cell?_of_block (w := W) (h2.trans h1.symm)
  | map b => exact h2.trans h1.symm
/-- What the law's call comes to. -/
def TrueEnd (W : World) : Ending → World → Prop := fun e W' => e = .returned (.bool true) ∧ W'.os = W.os ∧ W'.output = W.output ∧ (∀ b o, hp W b = some o → hp W' b = some o) ∧ ∀ a, W'.frozen? a = W.frozen? a
theorem law_calls {P : Program} {G : Prog} (pg : ProgOK P G) {f : Nat} {args : List PV} {vals : List Value} {W : World} {o' : Stack} (hr : RVals (cAll W) (gt []) (hp W) args vals) (e : callI G f args [] = some (.b true, o')) : Calls P f vals.toArray W (TrueEnd W) := by
  obtain ⟨_, h⟩ := sound pg e
  refine Calls.mono (h (cAll W) _ W vals (cAll_ok W) hr) ?_
  rintro e W' ⟨_, v, c', fp', f', rfl, hg, hok, ha, _, hret⟩
  have hv : v = .bool true := by
    have h : [v] = [Value.bool true] := hret.2.1
    simpa using h
  subst hv
  exact ⟨rfl, hg.os, hg.output, fun b o hb => hok.okF b o (.inl (ha.F b o hb)), hg.fz⟩
/-- An aggregate argument. -/
theorem read_agg {P : Program} {H : Type} {enc : TypeId × Value → H} {W : World} {Ts : List TypeId} (hc : closedB P Ts = true) {base : Nat} {sp : Nat → Bool} {held : Bool} {t : TypeId} {v : Value} {d : DataW H} {ps : List MemPlace} (ht : t ∈ Ts)
    (h : DataW.Trod enc P W base sp held t v d ps) : ∃ n xs, RdOK P W n t v.cells.toList xs := by
  obtain ⟨n, hn⟩ := h
  obtain ⟨xs, hx⟩ := read hc n t _ d ps ht hn
  exact ⟨n, xs, hx⟩
/-- An argument of an aggregate type. -/
theorem arg_agg {P : Program} {W : World} {base n : Nat} {t : TypeId} {v : Value} {xs : List PV} (hw : Value.okWide P W .any base t v) (ha : isAg P t = true) (hx : RdOK P W n t v.cells.toList xs) : RVal (cAll W) (gt []) (hp W) (.agg xs) v := by
  obtain ⟨_, h2, h3, _, h5⟩ := hx
  obtain ⟨cs, rfl⟩ : ∃ cs, v = .agg cs := by
    unfold isAg at ha
    unfold Value.okWide at hw
    split at ha
    · rename_i hu; rw [hu] at hw; obtain ⟨cs, h, _⟩ := hw; exact ⟨cs, h⟩
    · rename_i hu; rw [hu] at hw; obtain ⟨cs, h, _⟩ := hw; exact ⟨cs, h⟩
    · cases ha
  exact ⟨cs.toList, by simp, h3, by simpa [Value.cells] using h2⟩
def isCell (P : Program) (t : TypeId) : Bool := match P.underlying t with | some .bool | some (.int _) | some .string | some (.slice _) => true | _ => false
/-- An argument of one cell. -/
theorem arg_cell {P : Program} {W : World} {base n : Nat} {t : TypeId} {v : Value} {xs : List PV} (hw : Value.okWide P W .any base t v) (ha : isCell P t = true) (hl : P.cellsOf t = 1) (hx : RdOK P W n t v.cells.toList xs) : ∃ x, xs = [x] ∧ RVal (cAll W) (gt []) (hp W) x v := by
  obtain ⟨_, h2, h3, _, h5⟩ := hx
  rw [hl] at h5
  obtain ⟨x, rfl⟩ := List.length_eq_one_iff.1 h5
  refine ⟨x, rfl, ?_⟩
  have hv : v.cells.toList = [v] := by
    unfold isCell at ha
    unfold Value.okWide at hw
    cases v <;> try rfl
    split at ha <;> rename_i hu <;> first | cases ha; done | (rw [hu] at hw; simp [Cell.okWide, Cell.ok, hu] at hw)
  rw [hv] at h2
  simp only [List.all_cons, List.all_nil, Bool.and_true] at h3
  obtain ⟨v1, v2, f1, f2, e1, e2, r, r2⟩ := h2
  obtain ⟨rfl, rfl⟩ := r2
  simp only [List.append_nil] at e1 e2
  subst e1
  rw [← e2] at r
  cases x <;> first | trivial | exact r | (simp [cellP] at h3)
theorem trod_bool {P : Program} {H : Type} {enc : TypeId × Value → H} {w : World} {base : Nat} {sp : Nat → Bool} {hd : Bool} {t : TypeId} (h : P.underlying t = some .bool) (b : Bool) : DataW.Trod enc P w base sp hd t (.bool b) (.lit (.bool b)) [] := ⟨1, by simp [DataW.trod, h, Value.cells]⟩
theorem okWide_bool' {P : Program} {w : World} {base : Nat} {t : TypeId} (h : P.underlying t = some .bool) (b : Bool) : Value.okWide P w .any base t (.bool b) := by
  simp [Value.okWide, h, Cell.okWide, Cell.ok]
end Go.Am
end
