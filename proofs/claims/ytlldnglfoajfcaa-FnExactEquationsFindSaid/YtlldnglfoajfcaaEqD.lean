/- EquationsFind of both sides and what the law makes of it. -/
import Derived.Test.YtlldnglfoajfcaaEqB
section
set_option linter.unusedSimpArgs false
set_option linter.unusedVariables false
namespace Go.Am
/-! The classes don't depend on how the states are numbered. -/
theorem alk_cov {cl : List Int} {g : Gr} {s t : Nat} : alk cl g s t ↔ cl.getD t 0 = cl.getD s 0 ∧ (∀ m ∈ g.getD s [], ∃ k ∈ g.getD t [], k.1 = m.1 ∧ clAt cl k.2 = clAt cl m.2) ∧ (∀ m ∈ g.getD t [], ∃ k ∈ g.getD s [], k.1 = m.1 ∧ clAt cl k.2 = clAt cl m.2) := by
  rw [← smS_iff]
  simp only [smS, Bool.and_eq_true, decide_eq_true_eq, covL_iff]
/-- The second graph is the first one with other numbers. -/
structure GIso (g1 g2 : Gr) (σ : Nat → Nat) : Prop where
  len : g1.length = g2.length
  lt : ∀ s, s < g1.length → σ s < g1.length
  row : ∀ s, s < g1.length → g2.getD (σ s) [] = (g1.getD s []).map fun m => (m.1, (σ m.2.toNat : Int))
def IsoC (n : Nat) (σ : Nat → Nat) (c1 c2 : List Int) : Prop := ∀ s t, s < n → t < n → (c1.getD s 0 = c1.getD t 0 ↔ c2.getD (σ s) 0 = c2.getD (σ t) 0)
theorem iso_cov {g1 g2 : Gr} {σ : Nat → Nat} (hi : GIso g1 g2 σ) (ho : OkTo g1) {c1 c2 : List Int} (hc : IsoC g1.length σ c1 c2) {s t : Nat} (hs : s < g1.length) (ht : t < g1.length) :
    (∀ m ∈ g1.getD s [], ∃ k ∈ g1.getD t [], k.1 = m.1 ∧ clAt c1 k.2 = clAt c1 m.2) ↔ (∀ m ∈ g2.getD (σ s) [], ∃ k ∈ g2.getD (σ t) [], k.1 = m.1 ∧ clAt c2 k.2 = clAt c2 m.2) := by
  rw [hi.row s hs, hi.row t ht]
  simp only [List.mem_map, forall_exists_index, and_imp, forall_apply_eq_imp_iff₂]
  have key : ∀ (k m : Mv), k ∈ g1.getD t [] → m ∈ g1.getD s [] → (clAt c1 k.2 = clAt c1 m.2 ↔ clAt c2 (σ k.2.toNat : Int) = clAt c2 (σ m.2.toNat : Int)) := by
    intro k m hk hm
    have h1 := ho.row t k hk
    have h2 := ho.row s m hm
    have := hc k.2.toNat m.2.toNat (by omega) (by omega)
    simpa [clAt] using this
  constructor
  · intro h m hm
    obtain ⟨k, hk, e1, e2⟩ := h m hm
    exact ⟨_, ⟨k, hk, rfl⟩, e1, (key k m hk hm).1 e2⟩
  · intro h m hm
    obtain ⟨_, ⟨k, hk, rfl⟩, e1, e2⟩ := h m hm
    exact ⟨k, hk, e1, (key k m hk hm).2 e2⟩
theorem iso_next {g1 g2 : Gr} {σ : Nat → Nat} (hi : GIso g1 g2 σ) (ho : OkTo g1) {c1 c2 : List Int} (hc : IsoC g1.length σ c1 c2) : IsoC g1.length σ (nextC c1 g1) (nextC c2 g2) := by
  intro s t hs ht
  have hs2 := hi.lt s hs
  have ht2 := hi.lt t ht
  rw [nextC_at hs, nextC_at ht, nextC_at (by rw [← hi.len]; exact hs2), nextC_at (by rw [← hi.len]; exact ht2)]
  have e1 : ((nxt c1 g1 s : Int) = nxt c1 g1 t) ↔ alk c1 g1 s t := by rw [← nxt_eq]; omega
  have e2 : ((nxt c2 g2 (σ s) : Int) = nxt c2 g2 (σ t)) ↔ alk c2 g2 (σ s) (σ t) := by rw [← nxt_eq]; omega
  rw [e1, e2, alk_cov, alk_cov]
  exact and_congr (hc t s ht hs) (and_congr (iso_cov hi ho hc hs ht) (iso_cov hi ho hc ht hs))
theorem iso_it {g1 g2 : Gr} {σ : Nat → Nat} (hi : GIso g1 g2 σ) (ho : OkTo g1) : ∀ (f : Nat) {c1 c2 : List Int}, IsoC g1.length σ c1 c2 → IsoC g1.length σ (itC g1 f c1) (itC g2 f c2)
  | 0, _, _, h => h
  | f + 1, c1, c2, h => iso_it hi ho f (c1 := nextC c1 g1) (c2 := nextC c2 g2) (iso_next hi ho h)
theorem iso_cls {g1 g2 : Gr} {σ : Nat → Nat} (hi : GIso g1 g2 σ) (ho : OkTo g1) : IsoC g1.length σ (clsG g1) (clsG g2) := by
  unfold clsG
  rw [← hi.len]
  exact iso_it hi ho _ fun s t _ _ => by simp only [zer_at]
/-- The number of a state when the graphs change their places. -/
def swp (a b : Nat) (s : Nat) : Nat := if s < a then b + s else s - a
theorem both_row (a b : Gr) {s : Nat} (h : s < a.length) : (bothG a b).getD s [] = a.getD s [] := by
  unfold bothG
  rw [List.getD_eq_getElem?_getD, List.getElem?_append_left h, ← List.getD_eq_getElem?_getD]
theorem both_row2 (a b : Gr) (s : Nat) : (bothG a b).getD (a.length + s) [] = shL a.length (b.getD s []) := by
  unfold bothG
  rw [List.getD_eq_getElem?_getD, List.getElem?_append_right (by omega), Nat.add_sub_cancel_left, List.getElem?_map, List.getD_eq_getElem?_getD]
  cases b[s]? with
  | none => rfl
  | some r => rfl
theorem both_len (a b : Gr) : (bothG a b).length = a.length + b.length := by simp [bothG]
theorem both_to {a b : Gr} (ha : OkTo a) (hb : OkTo b) : OkTo (bothG a b) := by
  intro l hl m hm
  rw [both_len]
  unfold bothG at hl
  rcases List.mem_append.1 hl with h | h
  · have := ha l h m hm; omega
  · obtain ⟨r, hr, rfl⟩ := List.mem_map.1 h
    simp only [shL, List.mem_map] at hm
    obtain ⟨y, hy, rfl⟩ := hm
    have := hb r hr y hy
    simp only; omega
theorem swap_iso {a b : Gr} (ha : OkTo a) (hb : OkTo b) : GIso (bothG a b) (bothG b a) (swp a.length b.length) := by
  refine ⟨by rw [both_len, both_len]; omega, fun s hs => ?_, fun s hs => ?_⟩
  · rw [both_len] at hs ⊢
    unfold swp
    split <;> omega
  · rw [both_len] at hs
    by_cases h : s < a.length
    · have e1 : swp a.length b.length s = b.length + s := by unfold swp; rw [if_pos h]
      rw [e1, both_row2, both_row a b h]
      unfold shL
      refine List.map_congr_left fun m hm => ?_
      have := ha.row s m hm
      have e2 : swp a.length b.length m.2.toNat = b.length + m.2.toNat := by unfold swp; rw [if_pos (by omega)]
      rw [e2]
      refine Prod.ext rfl ?_
      simp only; omega
    · have e1 : swp a.length b.length s = s - a.length := by unfold swp; rw [if_neg h]
      have e3 : s = a.length + (s - a.length) := by omega
      rw [e1, both_row b a (by omega)]
      rw [e3, both_row2, Nat.add_sub_cancel_left]
      unfold shL
      rw [List.map_map]
      refine (List.map_congr_left fun m hm => ?_).trans (List.map_id _) |>.symm
      have := hb.row (s - a.length) m hm
      simp only [Function.comp]
      have e2 : swp a.length b.length (m.2 + a.length).toNat = m.2.toNat := by unfold swp; rw [if_neg (by omega)]; omega
      rw [e2]
      refine Prod.ext rfl ?_
      simp only [id]; omega
theorem itC_nrm (g : Gr) : ∀ (f : Nat) {cl : List Int}, NrmC cl → NrmC (itC g f cl)
  | 0, _, h => h
  | f + 1, cl, _ => itC_nrm g f (nextC_nrm cl g)
theorem clsG_nrm (g : Gr) : NrmC (clsG g) := itC_nrm g _ (zer_nrm _)
/-! The least state of g that is like an unknown. -/
def lsI (P : Nat → Bool) : Nat → Int → Int
  | 0, b => b
  | t + 1, b => lsI P t (if P t = true then (t : Int) else b)
theorem lsI_spec (P : Nat → Bool) : ∀ (t : Nat) (b : Int), (∃ u, u < t ∧ P u = true ∧ lsI P t b = u ∧ ∀ v, v < u → P v = false) ∨ ((∀ u, u < t → P u = false) ∧ lsI P t b = b)
  | 0, b => .inr ⟨fun u hu => absurd hu (Nat.not_lt_zero u), rfl⟩
  | t + 1, b => by
    simp only [lsI]
    rcases lsI_spec P t (if P t = true then (t : Int) else b) with ⟨u, h1, h2, h3, h4⟩ | ⟨h1, h2⟩
    · exact .inl ⟨u, by omega, h2, h3, h4⟩
    · rw [h2]
      cases hv : P t with
      | true => exact .inl ⟨t, by omega, hv, by simp, h1⟩
      | false =>
        refine .inr ⟨fun u hu => ?_, by simp⟩
        by_cases e : u = t
        · rw [e]; exact hv
        · exact h1 u (by omega)
def atP (cl : List Int) (n k : Nat) (s : Nat) : Bool := decide (cl.getD (n + s) 0 = cl.getD k 0)
def fS (cl : List Int) (n m k : Nat) : Option Int := if lsI (atP cl n k) m (-1) < 0 then none else some (lsI (atP cl n k) m (-1))
def fI (cl : List Int) (m k : Nat) : Option Int := if (m : Int) ≤ cl.getD (m + k) 0 then none else some (cl.getD (m + k) 0)
def coll (f : Nat → Option Int) : Nat → Nat → Option (List Int)
  | 0, _ => some []
  | n + 1, k => match f k with
    | none => none
    | some v => match coll f n (k + 1) with
      | none => none
      | some l => some (v :: l)
theorem coll_congr {f f' : Nat → Option Int} : ∀ (n k : Nat), (∀ i, k ≤ i → i < k + n → f i = f' i) → coll f n k = coll f' n k
  | 0, _, _ => rfl
  | n + 1, k, h => by
    simp only [coll]
    rw [h k (by omega) (by omega), coll_congr n (k + 1) fun i h1 h2 => h i (by omega) (by omega)]
theorem coll_len {f : Nat → Option Int} : ∀ (n k : Nat) {l : List Int}, coll f n k = some l → l.length = n
  | 0, _, l, h => by simp only [coll, Option.some.injEq] at h; rw [← h]; rfl
  | n + 1, k, l, h => by
    simp only [coll] at h
    split at h
    · cases h
    · split at h
      · cases h
      · rename_i v _ l' h2
        simp only [Option.some.injEq] at h
        rw [← h, List.length_cons, coll_len n (k + 1) h2]
/-- Both sides find the same. -/
theorem fS_fI {e g : Gr} (he : OkTo e) (hg : OkTo g) {k : Nat} (hk : k < e.length) : fS (clsG (bothG e g)) e.length g.length k = fI (clsG (bothG g e)) g.length k := by
  have hi := iso_cls (swap_iso he hg) (both_to he hg)
  rw [both_len] at hi
  have hn := clsG_nrm (bothG g e)
  have hl2 : (clsG (bothG g e)).length = g.length + e.length := by rw [clsG_len, both_len]
  -- the classes of g's states and of the unknown
  have key : ∀ s, s < g.length → (atP (clsG (bothG e g)) e.length k s = true ↔ (clsG (bothG g e)).getD s 0 = (clsG (bothG g e)).getD (g.length + k) 0) := by
    intro s hs
    have := hi (e.length + s) k (by omega) (by omega)
    have e1 : swp e.length g.length (e.length + s) = s := by unfold swp; rw [if_neg (by omega)]; omega
    have e2 : swp e.length g.length k = g.length + k := by unfold swp; rw [if_pos hk]
    rw [e1, e2] at this
    unfold atP
    rw [decide_eq_true_eq]
    exact this
  obtain ⟨u, hu1, hu2, hu3⟩ := hn (g.length + k) (by omega)
  -- u is the least state of its class
  have least : ∀ s, s < g.length + e.length → (clsG (bothG g e)).getD s 0 = (clsG (bothG g e)).getD (g.length + k) 0 → u ≤ s := by
    intro s hs h
    obtain ⟨v, hv1, hv2, _⟩ := hn s (by omega)
    rw [hv1, hu1] at h
    omega
  unfold fS fI
  rw [hu1]
  rcases lsI_spec (atP (clsG (bothG e g)) e.length k) g.length (-1) with ⟨s, h1, h2, h3, h4⟩ | ⟨h1, h2⟩
  · rw [h3]
    have hs := (key s h1).1 h2
    have hus := least s (by omega) hs
    have hsu : s ≤ u := by
      rcases Nat.lt_or_ge u s with h | h
      · have hp : atP (clsG (bothG e g)) e.length k u = true := (key u (by omega)).2 (by rw [hu3, hu1])
        rw [h4 u h] at hp; cases hp
      · exact h
    have : s = u := by omega
    subst this
    rw [if_neg (by omega), if_neg (by omega)]
  · rw [h2, if_pos (by omega), if_pos]
    rcases Nat.lt_or_ge u g.length with h | h
    · have hp : atP (clsG (bothG e g)) e.length k u = true := (key u h).2 (by rw [hu3, hu1])
      rw [h1 u h] at hp; cases hp
    · omega
end Go.Am
end
section
set_option maxRecDepth 10000
set_option maxHeartbeats 1000000
set_option linter.unusedSimpArgs false
set_option linter.unusedVariables false
namespace Go.Am
open Go.Proofs Go.Sort Go.Shelf
/-! impl.GraphBoth -/
def sh0 (a : Gr) : Gr := a.map (shL 0)
theorem sh0_len (a : Gr) : (sh0 a).length = a.length := by simp [sh0]
theorem sh0_eq (a : Gr) : sh0 a = a := by
  unfold sh0
  refine (List.map_congr_left fun x _ => ?_).trans (List.map_id _)
  unfold shL
  exact (List.map_congr_left fun m _ => by simp).trans (List.map_id _)
theorem sh0_app (a b : Gr) : sh0 (a ++ b) = sh0 a ++ sh0 b := by simp [sh0]
theorem loopGb0 (B : PV) (hB : ∀ f n, known f n B = true) (a : Gr) (ha : OkTo a) (h60 : a.length ≤ 60) (hs : SmallG a) : ∀ (rest done : Gr), a = done ++ rest → ∀ Y YL, OwnS 43 1 Y YL (encGs true true (sh0 done)) →
    ∃ Y' YL', OwnS 43 1 Y' YL' (encGs true true (sh0 a)) ∧
    loopI G [2, 3, 4, 6, 32, 33, 34] [2, 3, 4, 6, 43, 61] c112l0 ⟨[(2, .ref (0, 2) 1 0 0), (3, .ref (0, 3) 1 0 0), (4, .ref (0, 4) 1 0 0), (6, .ref (0, 6) 1 0 0), (32, .sl false 1 (encGs false false a)), (33, .i a.length), (34, .i done.length)], (2, .box [.sl false 1 (encGs false false a)]) :: (3, .box [B]) :: (4, .box [.nils]) :: (6, .box [Y]) :: YL, []⟩ =
      some (.exit 0, ⟨[(2, .ref (0, 2) 1 0 0), (3, .ref (0, 3) 1 0 0), (4, .ref (0, 4) 1 0 0), (6, .ref (0, 6) 1 0 0), (32, .sl false 1 (encGs false false a)), (33, .i a.length), (34, .i a.length), (35, .b false)], (2, .box [.sl false 1 (encGs false false a)]) :: (3, .box [B]) :: (4, .box [.nils]) :: (6, .box [Y']) :: YL', []⟩)
  | [], done, hd, Y, YL, hY => by
    rw [List.append_nil] at hd
    subst hd
    refine ⟨Y, YL, hY, ?_⟩
    generalize encGs false false a = E
    rw [loopI_eq]
    rcases hY with ⟨h1, rfl, rfl⟩ | ⟨h1, rfl, rfl⟩
    · simp [r112l0, b112l0, hB]
    · simp [r112l0, b112l0, hB]
  | x :: rest, done, hd, Y, YL, hY => by
    have hrl : a.length = done.length + (rest.length + 1) := by rw [hd]; simp
    have hlt : (done.length : Int) < a.length := by omega
    have hlt2 : done.length < a.length := by omega
    have hw : IntKind.i64.wrap ((done.length : Int) + 1) = (done.length : Int) + 1 := wr (by omega)
    have hdl : done.length ≤ 4294967295 := by omega
    have hat : nth (encGs false false a) done.length = some (.sl false 2 (x.map mvP)) := by rw [hd]; simpa using gr_at false false done x rest
    have hEl : (encGs false false a).length = a.length := by simp
    have hxa : x ∈ a := by rw [hd]; simp
    have hsh := eqShift 0 (by omega) x (fun m hm => by have := ha x hxa m hm; omega) (by have := hs.2 x hxa; omega)
    have hnew : encGs true true (sh0 (done ++ [x])) = encGs true true (sh0 done) ++ [encL true true (shL 0 x)] := by simp [encGs, sh0]
    have hDl : (encGs true true (sh0 done)).length = done.length := by simp [sh0]
    have hYn : OwnS 43 1 (.own (0, 43) (done.length + 1)) [(43, .row 1 (encGs true true (sh0 done) ++ [encL true true (shL 0 x)]))] (encGs true true (sh0 (done ++ [x]))) := by
      refine .inr ⟨by rw [hnew]; simp, ?_, ?_⟩
      · rw [hnew]; simp [sh0]
      · rw [hnew]
    obtain ⟨Y', YL', hY', hn⟩ := loopGb0 B hB a ha h60 hs rest (done ++ [x]) (by simpa using hd) _ _ hYn
    refine ⟨Y', YL', hY', ?_⟩
    clear hY'
    simp only [List.length_append, List.length_cons, List.length_nil, Int.natCast_add, show ((0 + 1 : Nat) : Int) = 1 from rfl] at hn
    have hd0 : encGs true true (sh0 done) = [] → done = [] := fun e => by
      have := congrArg List.length e
      rw [hDl] at this
      exact List.length_eq_zero_iff.1 this
    have hns := noShares_mv (shL 0 x)
    generalize hD : encGs true true (sh0 done) = D at hY hn hDl hd0
    generalize hE : encGs false false a = E at hat hEl hn ⊢
    rw [loopI_eq]
    rcases hY with ⟨h1, rfl, rfl⟩ | ⟨h1, rfl, rfl⟩
    · have hd1 := hd0 h1
      subst hd1
      subst h1
      simp only [List.length_nil, show ((0 : Nat) : Int) = 0 from rfl] at hat hlt hlt2
      rcases encL_two true true (shL 0 x) with ⟨e, _⟩ | e
      · rw [e] at hsh hn
        simp at hn
        simp [r112l0, b112l0, hB, hlt, hlt2, hat, hEl, hsh, wr1]
        exact hn
      · rw [e] at hsh hn
        generalize (shL 0 x).map mvP = Q at hsh hn hns
        simp at hn
        simp [r112l0, b112l0, hB, hlt, hlt2, hat, hEl, hsh, wr1, hns]
        exact hn
    · rcases encL_two true true (shL 0 x) with ⟨e, _⟩ | e
      · rw [e] at hsh hn
        simp [r112l0, b112l0, hB, hlt, hlt2, hat, hEl, hsh, hDl, hdl, hw]
        exact hn
      · rw [e] at hsh hn
        generalize (shL 0 x).map mvP = Q at hsh hn hns
        simp [r112l0, b112l0, hB, hlt, hlt2, hat, hEl, hsh, hDl, hdl, hw, hns]
        exact hn
theorem loopGb1 (EA : List PV) (n : Nat) (hEA : EA.length = n) (hn60 : n ≤ 60) (XA : List PV) (hXA : XA.length = n) (b : Gr) (hb : OkTo b) (h60 : b.length ≤ 60) (hs : SmallG b) : ∀ (rest done : Gr), b = done ++ rest →
    loopI G [2, 4, 6, 47, 48, 49] [2, 4, 6, 43, 61] c112l1 ⟨[(2, .ref (0, 2) 1 0 0), (4, .ref (0, 4) 1 0 0), (6, .ref (0, 6) 1 0 0), (47, .sl false 1 (encGs false false b)), (48, .i b.length), (49, .i done.length)], [(2, .box [.sl false 1 EA]), (4, .box [.nils]), (6, .box [.own (0, 43) (n + done.length)]), (43, .row 1 (XA ++ encGs true true (done.map (shL n))))], []⟩ =
      some (.exit 2, ⟨[(2, .ref (0, 2) 1 0 0), (4, .ref (0, 4) 1 0 0), (6, .ref (0, 6) 1 0 0), (47, .sl false 1 (encGs false false b)), (48, .i b.length), (49, .i b.length), (50, .b false)], [(2, .box [.sl false 1 EA]), (4, .box [.nils]), (6, .box [.own (0, 43) (n + b.length)]), (43, .row 1 (XA ++ encGs true true (b.map (shL n))))], []⟩)
  | [], done, hd => by
    rw [List.append_nil] at hd
    subst hd
    generalize XA ++ encGs true true (b.map (shL n)) = Q
    generalize encGs false false b = E
    rw [loopI_eq]
    simp [r112l1, b112l1]
  | x :: rest, done, hd => by
    have hrl : b.length = done.length + (rest.length + 1) := by rw [hd]; simp
    have hlt : (done.length : Int) < b.length := by omega
    have hlt2 : done.length < b.length := by omega
    have hw : IntKind.i64.wrap ((done.length : Int) + 1) = (done.length : Int) + 1 := wr (by omega)
    have hdl : n + done.length ≤ 4294967295 := by omega
    have hat : nth (encGs false false b) done.length = some (.sl false 2 (x.map mvP)) := by rw [hd]; simpa using gr_at false false done x rest
    have hEl : (encGs false false b).length = b.length := by simp
    have hxb : x ∈ b := by rw [hd]; simp
    have hsh := eqShift n (by omega) x (fun m hm => by have := hb x hxb m hm; omega) (by have := hs.2 x hxb; omega)
    have hn := loopGb1 EA n hEA hn60 XA hXA b hb h60 hs rest (done ++ [x]) (by simpa using hd)
    have hnew : XA ++ encGs true true ((done ++ [x]).map (shL n)) = (XA ++ encGs true true (done.map (shL n))) ++ [encL true true (shL n x)] := by simp [encGs]
    have hDl : (XA ++ encGs true true (done.map (shL n))).length = n + done.length := by simp [hXA]
    rw [hnew] at hn
    simp only [List.length_append, List.length_cons, List.length_nil, Int.natCast_add, show ((0 + 1 : Nat) : Int) = 1 from rfl] at hn
    have hna : n + (done.length + (0 + 1)) = n + done.length + 1 := by omega
    rw [hna] at hn
    have hns := noShares_mv (shL n x)
    generalize hF : XA ++ encGs true true (b.map (shL n)) = F at hn ⊢
    generalize hD : XA ++ encGs true true (done.map (shL n)) = D at hn hDl ⊢
    generalize hE : encGs false false b = E at hat hEl hn ⊢
    rw [loopI_eq]
    rcases encL_two true true (shL n x) with ⟨e, _⟩ | e
    · rw [e] at hsh hn
      simp [r112l1, b112l1, hlt, hlt2, hat, hEl, hEA, hsh, hDl, hdl, hw]
      exact hn
    · rw [e] at hsh hn
      generalize (shL n x).map mvP = Q at hsh hn hns
      simp [r112l1, b112l1, hlt, hlt2, hat, hEl, hEA, hsh, hDl, hdl, hw, hns]
      exact hn
def gbOk (a b : Gr) : Bool := grOk a && (grOk b && decide (a.length + b.length ≤ 60))
theorem eqGBothI (a b : Gr) (hsA : SmallG a) (hsB : SmallG b) (hfA : FitG a) (hfB : FitG b) :
    callI G 112 [.agg [.sl false 1 (encGs false false a)], .agg [.sl false 1 (encGs false false b)]] [] = some (.tup [.agg [if gbOk a b = true then .sl true 1 (encGs true true (bothG a b)) else .nils], .b (gbOk a b)], []) := by
  have h1 := eqOkI a hfA
  have h2 := eqOkI b hfB
  simp only [encG, encM_f] at h1 h2
  have hE1 : (encGs false false a).length = a.length := by simp
  have hE2 : (encGs false false b).length = b.length := by simp
  have hsA1 := hsA.1
  have hsB1 := hsB.1
  have hw : IntKind.i64.wrap ((a.length : Int) + b.length) = (a.length : Int) + b.length := wr (by omega)
  rw [callI_eq]
  cases c1 : grOk a with
  | false =>
    rw [c1] at h1
    simp [body1_eq _ _ (gp 112) g112, c112, a112, h1, gbOk, c1]
  | true =>
    rw [c1] at h1
    cases c2 : grOk b with
    | false =>
      rw [c2] at h2
      simp [body1_eq _ _ (gp 112) g112, c112, a112, h1, h2, gbOk, c1, c2]
    | true =>
      rw [c2] at h2
      by_cases c3 : a.length + b.length ≤ 60
      · have c4 : ¬ (60 : Int) < (a.length : Int) + b.length := by omega
        obtain ⟨p1, p2, p3⟩ := grOk_to c1
        obtain ⟨q1, q2, q3⟩ := grOk_to c2
        obtain ⟨Y, YL, hY, l0⟩ := loopGb0 (.sl false 1 (encGs false false b)) (by intro f n; simp) a p1 p3 hsA a [] rfl .nils [] (.inl ⟨rfl, rfl, rfl⟩)
        have l1 := loopGb1 (encGs false false a) a.length (by simp) p3 (encGs true true (sh0 a)) (by simp [sh0]) b q1 q3 hsB b [] rfl
        have hne : encGs true true (sh0 a) ≠ [] := by
          intro e
          have := congrArg List.length e
          rw [encGs_len, sh0_len] at this
          have h0 : a.length = 0 := this
          omega
        have hg : gbOk a b = true := by simp [gbOk, c1, c2, c3]
        have hbo : encGs true true (sh0 a) ++ encGs true true (b.map (shL a.length)) = encGs true true (bothG a b) := by rw [sh0_eq, bothG, encGs_app]
        rw [hg]
        rcases hY with ⟨q, _⟩ | ⟨_, rfl, rfl⟩
        · exact absurd q hne
        · simp only [List.length_nil, show ((0 : Nat) : Int) = 0 from rfl, List.map_nil, show encGs true true [] = [] from rfl, List.append_nil, Nat.add_zero, encGs_len, sh0_len] at l0 l1
          rw [hbo] at l1
          have hBl : (encGs true true (bothG a b)).length = a.length + b.length := by rw [encGs_len, both_len]
          generalize encGs true true (bothG a b) = Z at l1 hBl ⊢
          generalize encGs true true (sh0 a) = Z0 at l0 l1
          generalize encGs false false a = E1 at h1 hE1 l0 l1 ⊢
          generalize encGs false false b = E2 at h2 hE2 l0 l1 ⊢
          simp [body1_eq _ _ (gp 112) g112, c112, a112, h1, h2, hE1, hE2, hw, c4, l0, l1, hBl]
      · have c4 : (60 : Int) < (a.length : Int) + b.length := by omega
        have hg : gbOk a b = false := by simp [gbOk, c3]
        rw [hg]
        simp [body1_eq _ _ (gp 112) g112, c112, a112, h1, h2, hE1, hE2, hw, c4]
end Go.Am
end
section
set_option maxRecDepth 10000
set_option maxHeartbeats 1000000
set_option linter.unusedSimpArgs false
set_option linter.unusedVariables false
namespace Go.Am
open Go.Proofs Go.Sort Go.Shelf
/-! spec.GraphBoth and spec.EquationsFind -/
def bothS (a b : Gr) : List PV := encGs false true a ++ encGs true true (b.map (shL a.length))
theorem bothS_R (a b : Gr) : EncR true (bothS a b) (bothG a b) := (encR_G false true a).app (encR_G true true (b.map (shL a.length)))
theorem noShares_app : ∀ (a b : List PV), noShares (a ++ b) = (noShares a && noShares b)
  | [], b => by simp [noShares]
  | x :: a, b => by simp only [List.cons_append, noShares, noShares_app a b, Bool.and_assoc]
theorem bothS_ns (a b : Gr) : noShares (bothS a b) = true := by
  unfold bothS
  rw [noShares_app, noShares_encGs, noShares_encGs]; rfl
theorem both_small {a b : Gr} (ha : SmallG a) (hb : SmallG b) (h : a.length + b.length ≤ 1048576) : SmallG (bothG a b) := by
  refine ⟨by rw [both_len]; exact h, fun l hl => ?_⟩
  unfold bothG at hl
  rcases List.mem_append.1 hl with h | h
  · exact ha.2 l h
  · obtain ⟨r, hr, rfl⟩ := List.mem_map.1 h
    rw [shL_len]
    exact hb.2 r hr
theorem eqGBothS (a b : Gr) (hsA : SmallG a) (hsB : SmallG b) (hfA : FitG a) (hfB : FitG b) :
    callI G 111 [.agg [.sl false 1 (encGs false false a)], .agg [.sl false 1 (encGs false false b)]] [] = some (.tup [.agg [if gbOk a b = true then .sl true 1 (bothS a b) else .nils], .b (gbOk a b)], []) := by
  have h1 := eqOkS a hfA
  have h2 := eqOkS b hfB
  simp only [encG, encM_f] at h1 h2
  have hE1 : (encGs false false a).length = a.length := by simp
  have hE2 : (encGs false false b).length = b.length := by simp
  have hsA1 := hsA.1
  have hsB1 := hsB.1
  have hw : IntKind.i64.wrap ((a.length : Int) + b.length) = (a.length : Int) + b.length := wr (by omega)
  rw [callI_eq]
  cases c1 : grOk a with
  | false =>
    rw [c1] at h1
    simp [body1_eq _ _ (gp 111) g111, c111, a111, h1, gbOk, c1]
  | true =>
    rw [c1] at h1
    cases c2 : grOk b with
    | false =>
      rw [c2] at h2
      simp [body1_eq _ _ (gp 111) g111, c111, a111, h1, h2, gbOk, c1, c2]
    | true =>
      rw [c2] at h2
      by_cases c3 : a.length + b.length ≤ 60
      · have c4 : ¬ (60 : Int) < (a.length : Int) + b.length := by omega
        obtain ⟨p1, p2, p3⟩ := grOk_to c1
        obtain ⟨q1, q2, q3⟩ := grOk_to c2
        have hb := eqBoth (encGs false false a) (encGs false false b) a b (encR_G _ _ _) (encR_G _ _ _) (by intro e; rw [e] at p2; simp at p2) (by omega) (by omega) hsA hsB (fun l hl m hm => by have := q1 l hl m hm; omega)
        have hg : gbOk a b = true := by simp [gbOk, c1, c2, c3]
        have hX : encGs false true a ++ encGs true true (b.map (shL a.length)) = bothS a b := rfl
        rw [hX] at hb
        have hns := bothS_ns a b
        rw [hg]
        generalize bothS a b = X at hb hns ⊢
        simp [body1_eq _ _ (gp 111) g111, c111, a111, h1, h2, hE1, hE2, hw, c4, hb, hns]
      · have c4 : (60 : Int) < (a.length : Int) + b.length := by omega
        have hg : gbOk a b = false := by simp [gbOk, c3]
        rw [hg]
        simp [body1_eq _ _ (gp 111) g111, c111, a111, h1, h2, hE1, hE2, hw, c4]
theorem loopFs0 (E2 : List PV) (X : List PV) (cl : List Int) (n m : Nat) (hcl : cl.length = n + m) (hnm : n + m ≤ 60) (Y : PV) (YL : Objs) (xs : List PV) (hY : OwnS 58 1 Y YL xs) (k : Nat) (hk : k < n) : ∀ (t : Nat) (b : Int), t ≤ m →
    loopI G [3, 8, 9, 10, 11, 12, 13] [3, 17, 23, 27, 58] c49l0 ⟨[(3, .ref (0, 3) 1 0 0), (8, .sl false 1 (cl.map PV.i)), (9, .i n), (10, Y), (11, .i k), (12, .i b), (13, .i ((t : Int) - 1))], (3, .box [.sl false 1 E2]) :: (17, .frz 1 X) :: YL, []⟩ =
      some (.exit 2, ⟨[(3, .ref (0, 3) 1 0 0), (8, .sl false 1 (cl.map PV.i)), (9, .i n), (10, Y), (11, .i k), (12, .i (lsI (atP cl n k) t b)), (13, .i (-1)), (38, .b false)], (3, .box [.sl false 1 E2]) :: (17, .frz 1 X) :: YL, []⟩)
  | 0, b, ht => by
    have hz : ((0 : Nat) : Int) - 1 = -1 := by omega
    rw [hz]
    generalize cl.map PV.i = C
    rw [loopI_eq]
    rcases hY with ⟨h1, rfl, rfl⟩ | ⟨h1, rfl, rfl⟩
    · simp [r49l0, b49l0, lsI]
    · simp [r49l0, b49l0, lsI]
  | t + 1, b, ht => by
    have hz : ((t + 1 : Nat) : Int) - 1 = t := by omega
    have hw : IntKind.i64.wrap ((t : Int) - 1) = (t : Int) - 1 := wr (by omega)
    have hw2 : IntKind.i64.wrap ((n : Int) + t) = ((n + t : Nat) : Int) := by rw [wr (by omega)]; omega
    have h0 : (0 : Int) ≤ t := by omega
    have hlt : n + t < n + m := by omega
    have hkl : k < n + m := by omega
    have hlti : ((n + t : Nat) : Int) < (n : Int) + m := by omega
    have hkli : (k : Int) < (n : Int) + m := by omega
    have hc1 := int_nth cl (n + t) (by omega)
    have hc2 := int_nth cl k (by omega)
    have hcl2 : (cl.map PV.i).length = n + m := by simp [hcl]
    have h00 : (0 : Int) ≤ ((n + t : Nat) : Int) := by omega
    have hnt : ((n + t : Nat) : Int).toNat = n + t := by omega
    have hn := loopFs0 E2 X cl n m hcl hnm Y YL xs hY k hk t (if atP cl n k t = true then (t : Int) else b) (by omega)
    rw [hz]
    have hls : lsI (atP cl n k) (t + 1) b = lsI (atP cl n k) t (if atP cl n k t = true then (t : Int) else b) := rfl
    rw [hls]
    generalize hR : lsI (atP cl n k) t = Rf at hn ⊢
    generalize ((n + t : Nat) : Int) = z at hw2 hlti h00 hnt
    by_cases c : cl.getD (n + t) 0 = cl.getD k 0
    · have hp : atP cl n k t = true := by simp only [atP, c, decide_true]
      rw [hp] at hn ⊢
      rw [c] at hc1
      simp only [if_true] at hn ⊢
      generalize cl.map PV.i = C at hc1 hc2 hcl2 hn ⊢
      rw [loopI_eq]
      rcases hY with ⟨h1, rfl, rfl⟩ | ⟨h1, rfl, rfl⟩
      · simp [r49l0, b49l0, h0, hw2, hcl2, h00, hnt, hlt, hkl, hlti, hkli, hc1, hc2, hw]
        exact hn
      · simp [r49l0, b49l0, h0, hw2, hcl2, h00, hnt, hlt, hkl, hlti, hkli, hc1, hc2, hw]
        exact hn
    · have hp : atP cl n k t = false := by simp only [atP, decide_eq_false_iff_not]; exact c
      rw [hp] at hn ⊢
      simp only [Bool.false_eq_true, if_false] at hn ⊢
      generalize cl.map PV.i = C at hc1 hc2 hcl2 hn ⊢
      generalize cl.getD (n + t) 0 = v1 at hc1 c
      generalize cl.getD k 0 = v2 at hc2 c
      rw [loopI_eq]
      rcases hY with ⟨h1, rfl, rfl⟩ | ⟨h1, rfl, rfl⟩
      · simp [r49l0, b49l0, h0, hw2, hcl2, h00, hnt, hlt, hkl, hlti, hkli, hc1, hc2, hw, c]
        exact hn
      · simp [r49l0, b49l0, h0, hw2, hcl2, h00, hnt, hlt, hkl, hlti, hkli, hc1, hc2, hw, c]
        exact hn
theorem loopFs1 (E2 : List PV) (X : List PV) (cl : List Int) (n m : Nat) (hE2 : E2.length = m) (hcl : cl.length = n + m) (hnm : n + m ≤ 60) : ∀ (j k : Nat), k + j = n → ∀ O : List Int, O.length = k →
    ∃ r, loopI G [3, 8, 9, 10, 11] [3, 17, 23, 27, 58] c49l1 ⟨[(3, .ref (0, 3) 1 0 0), (8, .sl false 1 (cl.map PV.i)), (9, .i n), (10, owIP 58 O), (11, .i k)], (3, .box [.sl false 1 E2]) :: (17, .frz 1 X) :: owIL 58 O, []⟩ = some r ∧
      ((coll (fS cl n m) j k = none ∧ ∃ L, r = (.ret, ⟨[(4, .nils), (5, .b false)], L, []⟩)) ∨
       ∃ l, coll (fS cl n m) j k = some l ∧ r = (.exit 0, ⟨[(3, .ref (0, 3) 1 0 0), (8, .sl false 1 (cl.map PV.i)), (9, .i n), (10, owIP 58 (O ++ l)), (11, .i n), (30, .b false)], (3, .box [.sl false 1 E2]) :: (17, .frz 1 X) :: owIL 58 (O ++ l), []⟩))
  | 0, k, hk, O, hO => by
    have he : k = n := by omega
    subst he
    refine ⟨_, ?_, .inr ⟨[], rfl, rfl⟩⟩
    rw [List.append_nil]
    generalize cl.map PV.i = C
    rw [loopI_eq]
    by_cases hd : O = []
    · subst hd
      simp [r49l1, b49l1, owIP, owIL]
    · simp [r49l1, b49l1, owIP, owIL, hd]
  | j + 1, k, hk, O, hO => by
    have hkn : k < n := by omega
    have hki : (k : Int) < n := by omega
    have hw : IntKind.i64.wrap ((k : Int) + 1) = (k : Int) + 1 := wr (by omega)
    have hw1 : IntKind.i64.wrap ((m : Int) - 1) = (m : Int) - 1 := wr (by omega)
    have h0 := loopFs0 E2 X cl n m hcl hnm _ _ _ (owI_S 58 O) k hkn m (-1) (Nat.le_refl _)
    have hol : O.length ≤ 4294967295 := by omega
    by_cases c : lsI (atP cl n k) m (-1) < 0
    · have hf : fS cl n m k = none := by simp only [fS, c, if_true]
      generalize lsI (atP cl n k) m (-1) = v at h0 c
      by_cases hd : O = []
      · subst hd
        refine ⟨(.ret, ⟨[(4, .nils), (5, .b false)], owIL 58 [], []⟩), ?_, .inl ⟨by simp only [coll, hf], _, rfl⟩⟩
        simp only [owIP, owIL, if_true] at h0
        generalize cl.map PV.i = C at h0 ⊢
        rw [loopI_eq]
        simp [r49l1, b49l1, owIP, owIL, hki, hE2, hw1, h0, c]
      · refine ⟨(.ret, ⟨[(4, .nils), (5, .b false)], owIL 58 O, []⟩), ?_, .inl ⟨by simp only [coll, hf], _, rfl⟩⟩
        simp only [owIP, owIL, hd, if_false] at h0
        generalize cl.map PV.i = C at h0 ⊢
        rw [loopI_eq]
        simp [r49l1, b49l1, owIP, owIL, hd, hki, hE2, hw1, h0, c]
    · have hf : fS cl n m k = some (lsI (atP cl n k) m (-1)) := by simp only [fS, c, if_false]
      generalize lsI (atP cl n k) m (-1) = v at h0 c hf
      obtain ⟨r, hn, hr⟩ := loopFs1 E2 X cl n m hE2 hcl hnm j (k + 1) (by omega) (O ++ [v]) (by simp [hO])
      have hne : O ++ [v] ≠ [] := by simp
      simp only [owIP, owIL, hne, if_false, List.length_append, List.length_cons, List.length_nil, Nat.zero_add, Int.natCast_add, show ((1 : Nat) : Int) = 1 from rfl] at hn
      refine ⟨r, ?_, ?_⟩
      · clear hr
        generalize cl.map PV.i = C at h0 hn ⊢
        rw [loopI_eq]
        by_cases hd : O = []
        · subst hd
          simp [owIP, owIL] at h0 hn
          simp [r49l1, b49l1, owIP, owIL, hki, hE2, hw1, h0, c, hw]
          exact hn
        · simp only [owIP, owIL, hd, if_false] at h0
          simp at hn
          simp [r49l1, b49l1, owIP, owIL, hd, hki, hE2, hw1, h0, c, hw, hol]
          exact hn
      · rcases hr with ⟨h1, h2⟩ | ⟨l, h1, h2⟩
        · exact .inl ⟨by simp only [coll, hf, h1], h2⟩
        · refine .inr ⟨v :: l, by simp only [coll, hf, h1], ?_⟩
          rw [h2]
          simp
/-- What is found. -/
def findE (e g : Gr) : Option (List Int) := if gbOk e g = true then coll (fS (clsG (bothG e g)) e.length g.length) e.length 0 else none
def fndP (r : Option (List Int)) : PV := match r with | none => .nils | some l => .sl true 1 (l.map PV.i)
theorem eqFindS (e g : Gr) (hse : SmallG e) (hsg : SmallG g) (hfe : FitG e) (hfg : FitG g) :
    callI G 49 [.agg [.sl false 1 (encGs false false e)], .agg [.sl false 1 (encGs false false g)]] [] = some (.tup [fndP (findE e g), .b (findE e g).isSome], []) := by
  have hb := eqGBothS e g hse hsg hfe hfg
  have hE1 : (encGs false false e).length = e.length := by simp
  have hE2 : (encGs false false g).length = g.length := by simp
  rw [callI_eq]
  by_cases c : gbOk e g = true
  · rw [c] at hb
    simp only [if_true] at hb
    have c' := c
    simp only [gbOk, Bool.and_eq_true, decide_eq_true_eq] at c'
    obtain ⟨p1, p2, p3⟩ := grOk_to c'.1
    obtain ⟨q1, q2, q3⟩ := grOk_to c'.2.1
    have hlen := both_len e g
    have hc := eqL4Classes _ (bothG e g) (bothS_R e g).fal (both_small hse hsg (by omega)) (both_to p1 q1) (by omega) (by omega)
    have hns := bothS_ns e g
    have hXl : (bothS e g).length = e.length + g.length := by rw [(bothS_R e g).1, both_len]
    obtain ⟨r, hl, hr⟩ := loopFs1 (encGs false false g) (fals (bothS e g)) (clsG (bothG e g)) e.length g.length (by simp) (by rw [clsG_len, both_len]) (by omega) e.length 0 (by omega) [] rfl
    simp only [owIP, owIL, if_true, List.nil_append, show ((0 : Nat) : Int) = 0 from rfl] at hl hr
    have hfe2 : findE e g = coll (fS (clsG (bothG e g)) e.length g.length) e.length 0 := by simp only [findE, c, if_true]
    rw [hfe2]
    generalize bothS e g = X at hb hc hns hXl hl hr
    generalize (clsG (bothG e g)).map PV.i = C at hc hl hr
    generalize encGs false false g = E2 at hb hE2 hl hr ⊢
    generalize encGs false false e = E1 at hb hE1 ⊢
    rcases hr with ⟨h1, L, rfl⟩ | ⟨l, h1, rfl⟩
    · rw [h1]
      simp [body1_eq _ _ (gp 49) g49, c49, a49, hb, hc, hns, hXl, hE1, hE2, hl, fndP]
    · have hll := coll_len _ _ h1
      have hln : l ≠ [] := by intro e0; rw [e0] at hll; simp at hll; omega
      have hml : (l.map PV.i).length = l.length := by simp
      rw [h1]
      simp only [hln, if_false] at hl
      simp only [fndP]
      generalize l.map PV.i = LM at hl hml ⊢
      simp [body1_eq _ _ (gp 49) g49, c49, a49, hb, hc, hns, hXl, hE1, hE2, hl, fndP, hml]
  · have c : gbOk e g = false := by simpa using c
    rw [c] at hb
    simp only [Bool.false_eq_true, if_false] at hb
    have hfe2 : findE e g = none := by simp only [findE, c, Bool.false_eq_true, if_false]
    rw [hfe2]
    simp [body1_eq _ _ (gp 49) g49, c49, a49, hb, fndP]
end Go.Am
end
section
set_option maxRecDepth 10000
set_option maxHeartbeats 1000000
set_option linter.unusedSimpArgs false
set_option linter.unusedVariables false
namespace Go.Am
open Go.Proofs Go.Sort Go.Shelf
/-! impl.EquationsFind -/
theorem loopFi (E2 X : List PV) (cl : List Int) (n m : Nat) (hE2 : E2.length = m) (hcl : cl.length = m + n) (hnm : m + n ≤ 60) : ∀ (j k : Nat), k + j = n → ∀ O : List Int, O.length = k →
    ∃ r, loopI G [3, 8, 9, 25, 26] [3, 15, 21, 22, 45] c50l0 ⟨[(3, .ref (0, 3) 1 0 0), (8, .own (0, 21) (m + n)), (9, owIP 45 O), (25, .i n), (26, .i k)], (3, .box [.sl false 1 E2]) :: (15, .row 1 X) :: (21, .row 1 (cl.map PV.i)) :: owIL 45 O, []⟩ = some r ∧
      ((coll (fI cl m) j k = none ∧ ∃ L, r = (.ret, ⟨[(4, .nils), (5, .b false)], L, []⟩)) ∨
       ∃ l, coll (fI cl m) j k = some l ∧ r = (.exit 0, ⟨[(3, .ref (0, 3) 1 0 0), (8, .own (0, 21) (m + n)), (9, owIP 45 (O ++ l)), (25, .i n), (26, .i n), (27, .b false)], (3, .box [.sl false 1 E2]) :: (15, .row 1 X) :: (21, .row 1 (cl.map PV.i)) :: owIL 45 (O ++ l), []⟩))
  | 0, k, hk, O, hO => by
    have he : k = n := by omega
    subst he
    refine ⟨_, ?_, .inr ⟨[], rfl, rfl⟩⟩
    rw [List.append_nil]
    generalize cl.map PV.i = C
    rw [loopI_eq]
    by_cases hd : O = []
    · subst hd
      simp [r50l0, b50l0, owIP, owIL]
    · simp [r50l0, b50l0, owIP, owIL, hd]
  | j + 1, k, hk, O, hO => by
    have hkn : k < n := by omega
    have hki : (k : Int) < n := by omega
    have hw : IntKind.i64.wrap ((k : Int) + 1) = (k : Int) + 1 := wr (by omega)
    have hw2 : IntKind.i64.wrap ((m : Int) + k) = ((m + k : Nat) : Int) := by rw [wr (by omega)]; omega
    have hlt : m + k < m + n := by omega
    have hc1 := int_nth cl (m + k) (by omega)
    have hcl2 : (cl.map PV.i).length = m + n := by simp [hcl]
    have h00 : (0 : Int) ≤ ((m + k : Nat) : Int) := by omega
    have hnt : ((m + k : Nat) : Int).toNat = m + k := by omega
    have hzl : ((m + k : Nat) : Int) < ((m + n : Nat) : Int) := by omega
    have hol : O.length ≤ 4294967295 := by omega
    have hzl2 : ((m + k : Nat) : Int) < (m : Int) + n := by omega
    generalize ((m + k : Nat) : Int) = z at hw2 h00 hnt hzl hzl2
    by_cases c : (m : Int) ≤ cl.getD (m + k) 0
    · have hf : fI cl m k = none := by simp only [fI, c, if_true]
      generalize cl.getD (m + k) 0 = v at hc1 c
      by_cases hd : O = []
      · subst hd
        refine ⟨(.ret, ⟨[(4, .nils), (5, .b false)], owIL 45 [], []⟩), ?_, .inl ⟨by simp only [coll, hf], _, rfl⟩⟩
        generalize cl.map PV.i = C at hc1 hcl2 ⊢
        rw [loopI_eq]
        simp [r50l0, b50l0, owIP, owIL, hki, hE2, hw2, h00, hnt, hzl, hzl2, hlt, hkn, hc1, hcl2, c]
      · refine ⟨(.ret, ⟨[(4, .nils), (5, .b false)], owIL 45 O, []⟩), ?_, .inl ⟨by simp only [coll, hf], _, rfl⟩⟩
        generalize cl.map PV.i = C at hc1 hcl2 ⊢
        rw [loopI_eq]
        simp [r50l0, b50l0, owIP, owIL, hd, hki, hE2, hw2, h00, hnt, hzl, hzl2, hlt, hkn, hc1, hcl2, c]
    · have hf : fI cl m k = some (cl.getD (m + k) 0) := by simp only [fI, c, if_false]
      generalize cl.getD (m + k) 0 = v at hc1 c hf
      obtain ⟨r, hn, hr⟩ := loopFi E2 X cl n m hE2 hcl hnm j (k + 1) (by omega) (O ++ [v]) (by simp [hO])
      have hne : O ++ [v] ≠ [] := by simp
      simp only [owIP, owIL, hne, if_false, List.length_append, List.length_cons, List.length_nil, Nat.zero_add, Int.natCast_add, show ((1 : Nat) : Int) = 1 from rfl] at hn
      refine ⟨r, ?_, ?_⟩
      · clear hr
        simp only [List.map_append, List.map_cons, List.map_nil] at hn
        generalize cl.map PV.i = C at hc1 hcl2 hn ⊢
        rw [loopI_eq]
        by_cases hd : O = []
        · subst hd
          simp at hn
          simp [r50l0, b50l0, owIP, owIL, hki, hE2, hw2, h00, hnt, hzl, hzl2, hlt, hkn, hc1, hcl2, c, hw]
          exact hn
        · simp [r50l0, b50l0, owIP, owIL, hd, hki, hE2, hw2, h00, hnt, hzl, hzl2, hlt, hkn, hc1, hcl2, c, hw, hol]
          exact hn
      · rcases hr with ⟨h1, h2⟩ | ⟨l, h1, h2⟩
        · exact .inl ⟨by simp only [coll, hf, h1], h2⟩
        · refine .inr ⟨v :: l, by simp only [coll, hf, h1], ?_⟩
          rw [h2]
          simp
theorem noShares_pi : ∀ l : List Int, noShares (l.map PV.i) = true
  | [] => rfl
  | x :: l => by
    have := noShares_pi l
    simp only [List.map_cons, noShares, this, Bool.and_true]
    rfl
theorem gbOk_comm (a b : Gr) : gbOk a b = gbOk b a := by
  unfold gbOk
  rw [Bool.and_left_comm, Nat.add_comm a.length]
theorem eqFindI (e g : Gr) (hse : SmallG e) (hsg : SmallG g) (hfe : FitG e) (hfg : FitG g) :
    callI G 50 [.agg [.sl false 1 (encGs false false e)], .agg [.sl false 1 (encGs false false g)]] [] = some (.tup [fndP (findE e g), .b (findE e g).isSome], []) := by
  have hb := eqGBothI g e hsg hse hfg hfe
  rw [gbOk_comm g e] at hb
  have hE1 : (encGs false false e).length = e.length := by simp
  have hE2 : (encGs false false g).length = g.length := by simp
  rw [callI_eq]
  by_cases c : gbOk e g = true
  · rw [c] at hb
    simp only [if_true] at hb
    have c' := c
    simp only [gbOk, Bool.and_eq_true, decide_eq_true_eq] at c'
    obtain ⟨p1, p2, p3⟩ := grOk_to c'.1
    obtain ⟨q1, q2, q3⟩ := grOk_to c'.2.1
    have hlen := both_len g e
    have hc := eqAlikeClasses _ (bothG g e) (encR_G true true (bothG g e)).fal (both_small hsg hse (by omega)) (both_to q1 p1) (by omega) (by omega)
    have hns := noShares_encGs true (bothG g e)
    have hXl : (encGs true true (bothG g e)).length = g.length + e.length := by rw [encGs_len, both_len]
    obtain ⟨r, hl, hr⟩ := loopFi (encGs false false g) (encGs true true (bothG g e)) (clsG (bothG g e)) e.length g.length (by simp) (by rw [clsG_len, both_len]) (by omega) e.length 0 (by omega) [] rfl
    simp only [owIP, owIL, if_true, List.nil_append, show ((0 : Nat) : Int) = 0 from rfl] at hl hr
    have hfe2 : findE e g = coll (fI (clsG (bothG g e)) g.length) e.length 0 := by
      simp only [findE, c, if_true]
      exact coll_congr _ _ fun i _ h2 => fS_fI p1 q1 (by omega)
    have hnC := noShares_pi (clsG (bothG g e))
    have hCl : ((clsG (bothG g e)).map PV.i).length = g.length + e.length := by rw [List.length_map, clsG_len, both_len]
    rw [hfe2]
    generalize encGs true true (bothG g e) = X at hb hc hns hXl hl hr
    generalize (clsG (bothG g e)).map PV.i = C at hc hl hr hCl hnC
    generalize encGs false false g = E2 at hb hE2 hl hr ⊢
    generalize encGs false false e = E1 at hb hE1 ⊢
    rcases hr with ⟨h1, L, rfl⟩ | ⟨l, h1, rfl⟩
    · rw [h1]
      simp [body1_eq _ _ (gp 50) g50, c50, a50, hb, hc, hns, hXl, hE1, hE2, hl, fndP, hCl, hnC]
    · have hll := coll_len _ _ h1
      have hln : l ≠ [] := by intro e0; rw [e0] at hll; simp at hll; omega
      have hml : (l.map PV.i).length = l.length := by simp
      rw [h1]
      simp only [hln, if_false] at hl
      simp only [fndP]
      generalize l.map PV.i = LM at hl hml ⊢
      simp [body1_eq _ _ (gp 50) g50, c50, a50, hb, hc, hns, hXl, hE1, hE2, hl, fndP, hml, hCl, hnC]
  · have c : gbOk e g = false := by simpa using c
    rw [c] at hb
    simp only [Bool.false_eq_true, if_false] at hb
    have hfe2 : findE e g = none := by simp only [findE, c, Bool.false_eq_true, if_false]
    rw [hfe2]
    simp [body1_eq _ _ (gp 50) g50, c50, a50, hb, fndP]
end Go.Am
end
section
set_option maxRecDepth 10000
set_option maxHeartbeats 4000000
set_option linter.unusedSimpArgs false
set_option linter.unusedVariables false
namespace Go.Am
open Go.Proofs Go.Sort Go.Shelf
theorem findE_len {e g : Gr} {l : List Int} (h : findE e g = some l) : l.length = e.length ∧ 1 ≤ e.length ∧ e.length ≤ 60 := by
  unfold findE at h
  split at h
  · rename_i c
    simp only [gbOk, Bool.and_eq_true, decide_eq_true_eq] at c
    have := grOk_to c.1
    exact ⟨coll_len _ _ h, this.2.1, this.2.2⟩
  · cases h
theorem lawEquationsFind (e g : Gr) (hfe : FitG e) (hfg : FitG g) : callI G 11 [encG false false e, encG false false g] [] = some (.b true, []) := by
  rw [callI_eq]
  have h1 := eqSzG e hfe
  by_cases hs : szG e 1048576 < 0
  · simp only [encG, encM_f, hs, if_true] at h1 ⊢
    simp [body1_eq _ _ (gp 11) g11, c11, a11, h1]
  obtain ⟨hse, hLe⟩ := szG_smallL (by omega) hs
  have h2 := eqSzGL g hfg (szG e 1048576) (by omega) hLe
  by_cases hs2 : szG g (szG e 1048576) < 0
  · simp only [encG, encM_f, hs, if_false] at h1 ⊢
    simp only [encG, encM_f, hs2, if_true] at h2 ⊢
    simp [body1_eq _ _ (gp 11) g11, c11, a11, h1, hs, h2]
  obtain ⟨hsg, _⟩ := szG_smallL hLe hs2
  have ht1 := eqToG e hse
  have ht2 := eqToG g hsg
  have hE1 := eqEqG false false e e hfe
  have hE2 := eqEqG false false g g hfg
  have hS := eqFindS e g hse hsg hfe hfg
  have hI := eqFindI e g hse hsg hfe hfg
  have hfl : fals (encGs false true e) = encGs false false e := fals_encGs _ _ _
  have hfl2 : fals (encGs false true g) = encGs false false g := fals_encGs _ _ _
  have hn1 := noShares_encGs false e
  have hn2 := noShares_encGs false g
  have hce := SmallG.cnt hse
  have hcg := SmallG.cnt hsg
  have hpe := cntG_pos e
  have hpg := cntG_pos g
  have hMe := fun (Lo : Objs) (h : getO Lo 36 = some (.row 1 (encGs false true e))) => eqMkG false e 1 [Lo] (0, 36) (by simp) h (by have := hse.1; omega) (by omega) (by omega)
  have hMg := fun (Lo : Objs) (h : getO Lo 38 = some (.row 1 (encGs false true g))) => eqMkG false g (1 + 2 * cntG e) [Lo] (0, 38) (by simp) h (by have := hsg.1; omega) (by omega) (by omega)
  simp only [show ∀ (Lo : Objs) (d : Nat) (ob : OB), setS [Lo] (0, d) ob = [setO Lo d ob] from fun _ _ _ => rfl] at hMe hMg
  have hk : ¬ (1 + 2 * cntG e + 2 * cntG g < 0) := by omega
  simp only [decide_true] at hE1 hE2
  simp only [encG, encM_f, hs, hs2, if_false] at h1 h2 ht1 ht2 hE1 hE2 ⊢
  generalize hfnd : findE e g = fd at hS hI
  cases fd with
  | none =>
    have hz1 := eqEqIsN
    have hz2 := eqMkIsN 1
    have hz3 := eqHlIsN 1
    simp only [fndP, Option.isSome_none] at hS hI
    simp [body1_eq _ _ (gp 11) g11, c11, a11, h1, hs, h2, hs2, ht1, ht2, hE1, hE2, hS, hI, hfl, hfl2, hn1, hn2, hMe, hMg, hk, hz1, hz2, hz3]
  | some l =>
    obtain ⟨hl1, hl2, hl3⟩ := findE_len hfnd
    have hz1 := eqEqIs l (by omega)
    have hz2 := fun (Lo : Objs) (h : getO Lo 42 = some (.row 1 (ints l))) => eqMkIs (0, 42) l 1 [Lo] (by simp) h (by omega) (by omega) (by omega)
    simp only [show ∀ (Lo : Objs) (d : Nat) (ob : OB), setS [Lo] (0, d) ob = [setO Lo d ob] from fun _ _ _ => rfl] at hz2
    have hz3 := eqHlIs l 1 (by omega) (by omega) (by omega)
    have hm := mkI_len 1 l
    have hn3 := noShares_ints l
    have hk3 : ¬ (1 + (l.length : Int) < 0) := by omega
    have hi : l.map PV.i = ints l := rfl
    simp only [fndP, Option.isSome_some, hi] at hS hI
    simp [body1_eq _ _ (gp 11) g11, c11, a11, h1, hs, h2, hs2, ht1, ht2, hE1, hE2, hS, hI, hfl, hfl2, hn1, hn2, hn3, hMe, hMg, hk, hk3, hz1, hz2, hz3, hm]
end Go.Am
end
