/- What the functions that the law reaches compute. -/
import Derived.Test.YtifjnagbhfnmgaaDoorEqB
import Derived.Test.YtifjnagbhfnmgaaDoorEqA
section
set_option maxRecDepth 10000
set_option maxHeartbeats 2000000
set_option linter.unusedSimpArgs false
set_option linter.unusedVariables false
namespace Go.Am
open Go.Proofs
theorem lkp_ins (k k' : Key) (x : PV) : ∀ es : List (Key × PV), lkp k (ins k' x es) = if k' = k then some x else lkp k es
  | [] => by simp [ins, lkp]
  | (k2, y) :: es => by
    simp only [ins]
    by_cases h : k2 = k'
    · subst h
      by_cases h2 : k2 = k <;> simp [lkp, h2]
    · by_cases h2 : k2 = k
      · subst h2
        have : ¬ k' = k2 := fun e => h e.symm
        simp [lkp, h, this]
      · simp [lkp, h, h2, lkp_ins k k' x es]
theorem ins_okE (k : Int) (b : ByteArray) (es : List (Key × PV)) (h : okE es) : okE (ins (.i k) (.s b) es) := by
  induction es with
  | nil => intro q hq; simp [ins] at hq; exact ⟨k, b, hq⟩
  | cons p es ih =>
    obtain ⟨k2, y⟩ := p
    intro q hq
    simp only [ins] at hq
    split at hq
    · rcases List.mem_cons.1 hq with rfl | hq
      · exact ⟨k, b, rfl⟩
      · exact h q (List.mem_cons_of_mem _ hq)
    · rcases List.mem_cons.1 hq with rfl | hq
      · exact h _ List.mem_cons_self
      · exact ih (fun q hq => h q (List.mem_cons_of_mem _ hq)) q hq
theorem Tol.up {σ : Int → List UInt8} {es : List (Key × PV)} (h : Tol σ es) (n d : Int) : Tol (up σ n d) (ins (.i n) (.s (S (35 :: dg d))) es) := by
  intro k h0 h1
  rw [lkp_ins]
  by_cases hk : k = n
  · subst hk; left; simp [Am.up]
  · have h2 : ¬ n = k := fun e => hk e.symm
    have h3 : ¬ Key.i n = Key.i k := fun e => h2 (by injection e)
    rw [if_neg h3]
    simpa [Am.up, hk] using h k h0 h1
theorem Tol0 : Tol σ0 [] := fun k _ _ => .inr ⟨rfl, rfl⟩
theorem kN0 (x y : Int) (hx : 0 ≤ x ∧ x < 30) (hy : 0 ≤ y ∧ y < 30) : PN (.mk 0 x y []) := by
  intro d hd hc
  have hs := Sh0
  simp only [cnt, cnts] at hc
  have hbn := kBindsI (.mk 0 x y [])
  simp only [enc, encs, kbnd] at hbn
  have d0 := dg_len d (by omega)
  have dy := dg_len y (by omega)
  have sx := hs x
  have sy := hs y
  have id := eqItoaS d (by omega) []
  have iy := eqItoaS y (by omega) []
  have hkey : key σ0 d (.mk 0 x y []) = [48] := by simp [key, keys]
  rw [callI_eq]
  simp [body1_eq _ _ (gp 46) g46, c46, a46, enc, encs, hbn, hkey, -b_adds]
theorem kM0 (x y : Int) (hx : 0 ≤ x ∧ x < 30) (hy : 0 ≤ y ∧ y < 30) : PM (.mk 0 x y []) := by
  intro σ d o j t es ob hs hd hc hT hn hE hj hob hM
  simp only [cnt, cnts] at hc
  have hbn := kBindsI (.mk 0 x y [])
  simp only [enc, encs, kbnd] at hbn
  have d0 := dg_len d (by omega)
  have dy := dg_len y (by omega)
  have sx := hs x
  have sy := hs y
  have id := eqItoaS d (by omega) []
  have iy := eqItoaS y (by omega) []
  have hkey : key σ d (.mk 0 x y []) = [48] := by simp [key, keys]
  have hjle : j ≤ o.length := by omega
  refine ⟨ob, hM, ?_⟩
  rw [updS_self o j t ob hob]
  have hjn : ¬ j = o.length := by omega
  rw [callI_eq]
  simp [body1_eq _ _ (gp 46) g46, c46, a46, enc, encs, hbn, hkey, hjle, hjn, updS_len, -b_adds]
theorem kN1 (x y : Int) (p : Pi) (hx : 0 ≤ x ∧ x < 30) (hy : 0 ≤ y ∧ y < 30) (sp : shape p = true) (hp : PN p) : PN (.mk 1 x y [p]) := by
  intro d hd hc
  have hs := Sh0
  simp only [cnt, cnts] at hc
  have cp := cnt_pos p
  have lp := key_len σ0 d hs (by omega) p sp (by omega)
  have hbn := kBindsI (.mk 1 x y [p])
  simp only [enc, encs, kbnd] at hbn
  have d0 := dg_len d (by omega)
  have dy := dg_len y (by omega)
  have sx := hs x
  have sy := hs y
  have id := eqItoaS d (by omega) []
  have iy := eqItoaS y (by omega) []
  have kx := k1_nil [(3, .box [.i 1, .i x, .i y, .sl false 4 (encs [p])]), (4, .box [(.sc (.map none))]), (5, .box [.i d]), (8, .box [(.sc (.map none))])] x hx (by simp [getO])
  simp only [encs, List.nil_append] at kx
  have ky := k1_nil [(3, .box [.i 1, .i x, .i y, .sl false 4 (encs [p])]), (4, .box [(.sc (.map none))]), (5, .box [.i d]), (8, .box [(.sc (.map none))])] y hy (by simp [getO])
  simp only [encs, List.nil_append] at ky
  have r0 := k2_nil p [p] [(3, .box [.i 1, .i x, .i y, .sl false 4 (encs [p])]), (4, .box [(.sc (.map none))]), (5, .box [.i d]), (8, .box [(.sc (.map none))])] x y 1 d 0 (by rfl) (by simp) (by simp [getO]) (by simp [getO]) (by simp [getO]) hd (by omega) hp
  simp only [encs, show ((0 : Nat) : Int) = 0 from rfl] at r0
  have b0 := b_addS (a := [40]) (b := σ0 x) (by simp; omega)
  have b1 := b_addS (a := [40] ++ σ0 x) (b := [33]) (by simp; omega)
  have b2 := b_addS (a := [40] ++ σ0 x ++ [33]) (b := σ0 y) (by simp; omega)
  have b3 := b_addS (a := [40] ++ σ0 x ++ [33] ++ σ0 y) (b := [32]) (by simp; omega)
  have b4 := b_addS (a := [40] ++ σ0 x ++ [33] ++ σ0 y ++ [32]) (b := key σ0 d p) (by simp; omega)
  have b5 := b_addS (a := [40] ++ σ0 x ++ [33] ++ σ0 y ++ [32] ++ key σ0 d p) (b := [41]) (by simp; omega)
  simp only [List.append_assoc, List.cons_append, List.nil_append] at b0 b1 b2 b3 b4 b5
  have hkey : key σ0 d (.mk 1 x y [p]) = [40] ++ σ0 x ++ [33] ++ σ0 y ++ [32] ++ key σ0 d p ++ [41] := by simp [key, keys]
  simp only [List.append_assoc, List.cons_append, List.nil_append] at hkey
  obtain ⟨op, ap, bp, lp'⟩ := p
  simp only [enc] at hbn kx ky r0
  rw [callI_eq]
  simp [body1_eq _ _ (gp 46) g46, c46, a46, enc, encs, hbn, hkey, b0, b1, b2, b3, b4, b5, kx, ky, r0, -b_adds]
theorem kM1 (x y : Int) (p : Pi) (hx : 0 ≤ x ∧ x < 30) (hy : 0 ≤ y ∧ y < 30) (sp : shape p = true) (hp : PM p) : PM (.mk 1 x y [p]) := by
  intro σ d o j t es ob hs hd hc hT hn hE hj hob hM
  simp only [cnt, cnts] at hc
  have cp := cnt_pos p
  have lp := key_len σ d hs (by omega) p sp (by omega)
  have hbn := kBindsI (.mk 1 x y [p])
  simp only [enc, encs, kbnd] at hbn
  have d0 := dg_len d (by omega)
  have dy := dg_len y (by omega)
  have sx := hs x
  have sy := hs y
  have id := eqItoaS d (by omega) []
  have iy := eqItoaS y (by omega) []
  have kx := k1_mp σ o [(3, .box [.i 1, .i x, .i y, .sl false 4 (encs [p])]), (4, .box [(.mp (j, t))]), (5, .box [.i d]), (8, .box [(.mp (j, t))])] j t es ob hT x hx (by simp [getO]) hj hob hM
  simp only [encs, List.nil_append] at kx
  have ky := k1_mp σ o [(3, .box [.i 1, .i x, .i y, .sl false 4 (encs [p])]), (4, .box [(.mp (j, t))]), (5, .box [.i d]), (8, .box [(.mp (j, t))])] j t es ob hT y hy (by simp [getO]) hj hob hM
  simp only [encs, List.nil_append] at ky
  obtain ⟨ob0, hM0, r0⟩ := k2_mp p [p] σ o [(3, .box [.i 1, .i x, .i y, .sl false 4 (encs [p])]), (4, .box [(.mp (j, t))]), (5, .box [.i d]), (8, .box [(.mp (j, t))])] x y 1 d 0 j t es ob (by rfl) (by simp) (by simp [getO]) (by simp [getO]) (by simp [getO]) hs hd (by omega) hT hn hE (by simp; omega) (by rw [List.getElem?_append_left (by first | exact hj | (simp only [updS_len]; exact hj))]; exact hob) hM hp
  rw [updS_app _ _ _ _ _ (by exact hj)] at r0
  simp only [encs, show ((0 : Nat) : Int) = 0 from rfl] at r0
  have b0 := b_addS (a := [40]) (b := σ x) (by simp; omega)
  have b1 := b_addS (a := [40] ++ σ x) (b := [33]) (by simp; omega)
  have b2 := b_addS (a := [40] ++ σ x ++ [33]) (b := σ y) (by simp; omega)
  have b3 := b_addS (a := [40] ++ σ x ++ [33] ++ σ y) (b := [32]) (by simp; omega)
  have b4 := b_addS (a := [40] ++ σ x ++ [33] ++ σ y ++ [32]) (b := key σ d p) (by simp; omega)
  have b5 := b_addS (a := [40] ++ σ x ++ [33] ++ σ y ++ [32] ++ key σ d p) (b := [41]) (by simp; omega)
  simp only [List.append_assoc, List.cons_append, List.nil_append] at b0 b1 b2 b3 b4 b5
  have hkey : key σ d (.mk 1 x y [p]) = [40] ++ σ x ++ [33] ++ σ y ++ [32] ++ key σ d p ++ [41] := by simp [key, keys]
  simp only [List.append_assoc, List.cons_append, List.nil_append] at hkey
  have hjle : j ≤ o.length := by omega
  refine ⟨ob0, hM0, ?_⟩
  have hjn : ¬ j = o.length := by omega
  obtain ⟨op, ap, bp, lp'⟩ := p
  simp only [enc] at hbn kx ky r0
  rw [callI_eq]
  simp [body1_eq _ _ (gp 46) g46, c46, a46, enc, encs, hbn, hkey, b0, b1, b2, b3, b4, b5, kx, ky, r0, hjle, hjn, updS_len, -b_adds]
theorem kN2 (x y : Int) (p : Pi) (hx : 0 ≤ x ∧ x < 30) (hy : 0 ≤ y ∧ y < 30) (sp : shape p = true) (hp : PM p) : PN (.mk 2 x y [p]) := by
  intro d hd hc
  have hs := Sh0
  simp only [cnt, cnts] at hc
  have cp := cnt_pos p
  have lp := key_len (up σ0 y d) (d + 1) (hs.up y d (by omega)) (by omega) p sp (by omega)
  have hbn := kBindsI (.mk 2 x y [p])
  simp only [enc, encs, kbnd] at hbn
  have d0 := dg_len d (by omega)
  have dy := dg_len y (by omega)
  have sx := hs x
  have sy := hs y
  have id := eqItoaS d (by omega) []
  have iy := eqItoaS y (by omega) []
  have kx := k1_nil [(3, .box [.i 2, .i x, .i y, .sl false 4 (encs [p])]), (4, .box [(.sc (.map none))]), (5, .box [.i (d + 1)]), (8, .box [.mp (0, 23)]), (23, .map false (ins (.i y) (.s (S (35 :: dg d))) []))] x hx (by simp [getO])
  simp only [encs, List.nil_append] at kx
  obtain ⟨ob0, hM0, r0⟩ := k2_mp p [p] (up σ0 y d) ([] : Stack) [(3, .box [.i 2, .i x, .i y, .sl false 4 (encs [p])]), (4, .box [(.sc (.map none))]), (5, .box [.i (d + 1)]), (8, .box [.mp (0, 23)]), (23, .map false (ins (.i y) (.s (S (35 :: dg d))) []))] x y 2 (d + 1) 0 0 23 (ins (.i y) (.s (S (35 :: dg d))) []) (.map false (ins (.i y) (.s (S (35 :: dg d))) [])) (by rfl) (by simp) (by simp [getO]) (by simp [getO]) (by simp [getO]) (hs.up y d (by omega)) (by omega) (by omega) (Tol0.up y d) (ins_nodup (by simp)) (ins_okE _ _ _ (by intro q hq; cases hq)) (by simp) (by rw [show 0 = ([] : Stack).length from rfl]; simp [getO]) (.inl rfl) hp
  have e0 := updS_last [] [(3, .box [.i 2, .i x, .i y, .sl false 4 (encs [p])]), (4, .box [(.sc (.map none))]), (5, .box [.i (d + 1)]), (8, .box [.mp (0, 23)]), (23, .map false (ins (.i y) (.s (S (35 :: dg d))) []))] 23 ob0
  simp only [List.length_nil] at e0 r0
  rw [e0] at r0
  simp only [setO, List.nil_append] at r0
  simp only [encs, show ((0 : Nat) : Int) = 0 from rfl] at r0
  have hrange : ∀ s1 : St, s1.ev (.t 24) = (.sc (.map none)) → (entsOf s1 (.sc (.map none)) = some ([], ⟨rg4 ([] : Stack).length (.sc (.map none)) (S (35 :: dg d)) y, obA ([] : Stack).length [.i 2, .i x, .i y, .sl false 4 (encs [p])] [(.sc (.map none))] [.i d] [], []⟩)) → _ := fun s1 e1 e2 =>
    mstart_ok s1 [] 2 x y d (encs [p]) (.sc (.map none)) (S (35 :: dg d)) y (by intro g; rfl) [] (by simp) (by intro q hq; cases hq) e1 e2
  have hms := hrange ⟨rg4 0 (.sc (.map none)) (S (35 :: dg d)) y, obA 0 [.i 2, .i x, .i y, .sl false 4 (encs [p])] [(.sc (.map none))] [.i d] [], []⟩ rfl (by
    rfl)
  simp only [rg4, rgA, obA, encs, List.length_nil] at hms
  have hb0 := b_addS (a := [35]) (b := dg d) (by simp; omega)
  simp only [List.cons_append, List.nil_append] at hb0
  have hw : IntKind.i64.wrap (d + 1) = d + 1 := wr (by omega)
  have hge : ¬ y < 0 := by omega
  have b0 := b_addS (a := [40]) (b := σ0 x) (by simp; omega)
  have b1 := b_addS (a := [40] ++ σ0 x) (b := [63]) (by simp; omega)
  have b2 := b_addS (a := [40] ++ σ0 x ++ [63]) (b := (35 :: dg d)) (by simp; omega)
  have b3 := b_addS (a := [40] ++ σ0 x ++ [63] ++ (35 :: dg d)) (b := [32]) (by simp; omega)
  have b4 := b_addS (a := [40] ++ σ0 x ++ [63] ++ (35 :: dg d) ++ [32]) (b := key (up σ0 y d) (d + 1) p) (by simp; omega)
  have b5 := b_addS (a := [40] ++ σ0 x ++ [63] ++ (35 :: dg d) ++ [32] ++ key (up σ0 y d) (d + 1) p) (b := [41]) (by simp; omega)
  simp only [List.append_assoc, List.cons_append, List.nil_append] at b0 b1 b2 b3 b4 b5
  have hkey : key σ0 d (.mk 2 x y [p]) = [40] ++ σ0 x ++ [63] ++ (35 :: dg d) ++ [32] ++ key (up σ0 y d) (d + 1) p ++ [41] := by simp [key, keys]
  simp only [List.append_assoc, List.cons_append, List.nil_append] at hkey
  obtain ⟨op, ap, bp, lp'⟩ := p
  simp only [enc] at hbn kx r0 hms
  rw [callI_eq]
  simp [body1_eq _ _ (gp 46) g46, c46, a46, enc, encs, hbn, hkey, b0, b1, b2, b3, b4, b5, kx, r0, hms, hb0, hw, hge, id, iy, -b_adds]
theorem kM2 (x y : Int) (p : Pi) (hx : 0 ≤ x ∧ x < 30) (hy : 0 ≤ y ∧ y < 30) (sp : shape p = true) (hp : PM p) : PM (.mk 2 x y [p]) := by
  intro σ d o j t es ob hs hd hc hT hn hE hj hob hM
  simp only [cnt, cnts] at hc
  have cp := cnt_pos p
  have lp := key_len (up σ y d) (d + 1) (hs.up y d (by omega)) (by omega) p sp (by omega)
  have hbn := kBindsI (.mk 2 x y [p])
  simp only [enc, encs, kbnd] at hbn
  have d0 := dg_len d (by omega)
  have dy := dg_len y (by omega)
  have sx := hs x
  have sy := hs y
  have id := eqItoaS d (by omega) []
  have iy := eqItoaS y (by omega) []
  let o1 := updS o j t (.fmap false es)
  have hlen : (updS o j t (.fmap false es)).length = o.length := updS_len _ _ _ _
  have kx := k1_mp σ (updS o j t (.fmap false es)) [(3, .box [.i 2, .i x, .i y, .sl false 4 (encs [p])]), (4, .box [(.mp (j, t))]), (5, .box [.i (d + 1)]), (8, .box [.mp (o.length, 23)]), (23, .map false (ins (.i y) (.s (S (35 :: dg d))) es))] j t es (.fmap false es) hT x hx (by simp [getO]) (by rw [hlen]; exact hj) (updS_get o j t _ hj) (.inr rfl)
  rw [hlen] at kx
  simp only [encs, List.nil_append] at kx
  obtain ⟨ob0, hM0, r0⟩ := k2_mp p [p] (up σ y d) (updS o j t (.fmap false es)) [(3, .box [.i 2, .i x, .i y, .sl false 4 (encs [p])]), (4, .box [(.mp (j, t))]), (5, .box [.i (d + 1)]), (8, .box [.mp (o.length, 23)]), (23, .map false (ins (.i y) (.s (S (35 :: dg d))) es))] x y 2 (d + 1) 0 o.length 23 (ins (.i y) (.s (S (35 :: dg d))) es) (.map false (ins (.i y) (.s (S (35 :: dg d))) es)) (by rfl) (by simp) (by simp [getO]) (by simp [getO]) (by simp [getO]) (hs.up y d (by omega)) (by omega) (by omega) (hT.up y d) (ins_nodup hn) (ins_okE _ _ _ hE) (by simp [hlen]) (by rw [show o.length = (updS o j t (.fmap false es)).length from hlen.symm]; simp [getO]) (.inl rfl) hp
  have e0 := updS_last (updS o j t (.fmap false es)) [(3, .box [.i 2, .i x, .i y, .sl false 4 (encs [p])]), (4, .box [(.mp (j, t))]), (5, .box [.i (d + 1)]), (8, .box [.mp (o.length, 23)]), (23, .map false (ins (.i y) (.s (S (35 :: dg d))) es))] 23 ob0
  rw [hlen] at e0 r0
  rw [e0] at r0
  simp only [setO, List.nil_append] at r0
  simp only [encs, show ((0 : Nat) : Int) = 0 from rfl] at r0
  have hrange : ∀ s1 : St, s1.ev (.t 24) = (.mp (j, t)) → (entsOf s1 (.mp (j, t)) = some (es, ⟨rg4 o.length (.mp (j, t)) (S (35 :: dg d)) y, obA o.length [.i 2, .i x, .i y, .sl false 4 (encs [p])] [(.mp (j, t))] [.i d] [], updS o j t (.fmap false es)⟩)) → _ := fun s1 e1 e2 =>
    mstart_ok s1 (updS o j t (.fmap false es)) 2 x y d (encs [p]) (.mp (j, t)) (S (35 :: dg d)) y (by intro g; rw [hlen]; simp [known]; omega) es hn hE e1 (by rw [hlen]; exact e2)
  have hms := hrange ⟨rg4 o.length (.mp (j, t)) (S (35 :: dg d)) y, obA o.length [.i 2, .i x, .i y, .sl false 4 (encs [p])] [(.mp (j, t))] [.i d] [], o⟩ rfl (by
    have hjn : ¬ j = o.length := by omega
    rcases hM with rfl | rfl
    · simp [entsOf, St.get, St.set, hjn, hob, updS]
    · simp [entsOf, St.get, hjn, hob, updS_self o j t _ hob])
  simp only [rg4, rgA, obA, encs, List.length_nil, hlen] at hms
  have hb0 := b_addS (a := [35]) (b := dg d) (by simp; omega)
  simp only [List.cons_append, List.nil_append] at hb0
  have hw : IntKind.i64.wrap (d + 1) = d + 1 := wr (by omega)
  have hge : ¬ y < 0 := by omega
  have b0 := b_addS (a := [40]) (b := σ x) (by simp; omega)
  have b1 := b_addS (a := [40] ++ σ x) (b := [63]) (by simp; omega)
  have b2 := b_addS (a := [40] ++ σ x ++ [63]) (b := (35 :: dg d)) (by simp; omega)
  have b3 := b_addS (a := [40] ++ σ x ++ [63] ++ (35 :: dg d)) (b := [32]) (by simp; omega)
  have b4 := b_addS (a := [40] ++ σ x ++ [63] ++ (35 :: dg d) ++ [32]) (b := key (up σ y d) (d + 1) p) (by simp; omega)
  have b5 := b_addS (a := [40] ++ σ x ++ [63] ++ (35 :: dg d) ++ [32] ++ key (up σ y d) (d + 1) p) (b := [41]) (by simp; omega)
  simp only [List.append_assoc, List.cons_append, List.nil_append] at b0 b1 b2 b3 b4 b5
  have hkey : key σ d (.mk 2 x y [p]) = [40] ++ σ x ++ [63] ++ (35 :: dg d) ++ [32] ++ key (up σ y d) (d + 1) p ++ [41] := by simp [key, keys]
  simp only [List.append_assoc, List.cons_append, List.nil_append] at hkey
  have hjle : j ≤ o.length := by omega
  refine ⟨.fmap false es, .inr rfl, ?_⟩
  have hjn : ¬ j = o.length := by omega
  obtain ⟨op, ap, bp, lp'⟩ := p
  simp only [enc] at hbn kx r0 hms
  rw [callI_eq]
  simp [body1_eq _ _ (gp 46) g46, c46, a46, enc, encs, hbn, hkey, b0, b1, b2, b3, b4, b5, hlen, kx, r0, hms, hb0, hw, hge, id, iy, hjle, hjn, updS_len, -b_adds]
theorem kN3 (x y : Int) (p : Pi) (hx : 0 ≤ x ∧ x < 30) (hy : 0 ≤ y ∧ y < 30) (sp : shape p = true) (hp : PN p) : PN (.mk 3 x y [p]) := by
  intro d hd hc
  have hs := Sh0
  simp only [cnt, cnts] at hc
  have cp := cnt_pos p
  have lp := key_len σ0 d hs (by omega) p sp (by omega)
  have hbn := kBindsI (.mk 3 x y [p])
  simp only [enc, encs, kbnd] at hbn
  have d0 := dg_len d (by omega)
  have dy := dg_len y (by omega)
  have sx := hs x
  have sy := hs y
  have id := eqItoaS d (by omega) []
  have iy := eqItoaS y (by omega) []
  have r0 := k2_nil p [p] [(3, .box [.i 3, .i x, .i y, .sl false 4 (encs [p])]), (4, .box [(.sc (.map none))]), (5, .box [.i d]), (8, .box [(.sc (.map none))])] x y 3 d 0 (by rfl) (by simp) (by simp [getO]) (by simp [getO]) (by simp [getO]) hd (by omega) hp
  simp only [encs, show ((0 : Nat) : Int) = 0 from rfl] at r0
  have b0 := b_addS (a := [40, 116, 97, 117, 32]) (b := key σ0 d p) (by simp; omega)
  have b1 := b_addS (a := [40, 116, 97, 117, 32] ++ key σ0 d p) (b := [41]) (by simp; omega)
  simp only [List.append_assoc, List.cons_append, List.nil_append] at b0 b1
  have hkey : key σ0 d (.mk 3 x y [p]) = [40, 116, 97, 117, 32] ++ key σ0 d p ++ [41] := by simp [key, keys]
  simp only [List.append_assoc, List.cons_append, List.nil_append] at hkey
  obtain ⟨op, ap, bp, lp'⟩ := p
  simp only [enc] at hbn r0
  rw [callI_eq]
  simp [body1_eq _ _ (gp 46) g46, c46, a46, enc, encs, hbn, hkey, b0, b1, r0, -b_adds]
theorem kM3 (x y : Int) (p : Pi) (hx : 0 ≤ x ∧ x < 30) (hy : 0 ≤ y ∧ y < 30) (sp : shape p = true) (hp : PM p) : PM (.mk 3 x y [p]) := by
  intro σ d o j t es ob hs hd hc hT hn hE hj hob hM
  simp only [cnt, cnts] at hc
  have cp := cnt_pos p
  have lp := key_len σ d hs (by omega) p sp (by omega)
  have hbn := kBindsI (.mk 3 x y [p])
  simp only [enc, encs, kbnd] at hbn
  have d0 := dg_len d (by omega)
  have dy := dg_len y (by omega)
  have sx := hs x
  have sy := hs y
  have id := eqItoaS d (by omega) []
  have iy := eqItoaS y (by omega) []
  obtain ⟨ob0, hM0, r0⟩ := k2_mp p [p] σ o [(3, .box [.i 3, .i x, .i y, .sl false 4 (encs [p])]), (4, .box [(.mp (j, t))]), (5, .box [.i d]), (8, .box [(.mp (j, t))])] x y 3 d 0 j t es ob (by rfl) (by simp) (by simp [getO]) (by simp [getO]) (by simp [getO]) hs hd (by omega) hT hn hE (by simp; omega) (by rw [List.getElem?_append_left (by first | exact hj | (simp only [updS_len]; exact hj))]; exact hob) hM hp
  rw [updS_app _ _ _ _ _ (by exact hj)] at r0
  simp only [encs, show ((0 : Nat) : Int) = 0 from rfl] at r0
  have b0 := b_addS (a := [40, 116, 97, 117, 32]) (b := key σ d p) (by simp; omega)
  have b1 := b_addS (a := [40, 116, 97, 117, 32] ++ key σ d p) (b := [41]) (by simp; omega)
  simp only [List.append_assoc, List.cons_append, List.nil_append] at b0 b1
  have hkey : key σ d (.mk 3 x y [p]) = [40, 116, 97, 117, 32] ++ key σ d p ++ [41] := by simp [key, keys]
  simp only [List.append_assoc, List.cons_append, List.nil_append] at hkey
  have hjle : j ≤ o.length := by omega
  refine ⟨ob0, hM0, ?_⟩
  have hjn : ¬ j = o.length := by omega
  obtain ⟨op, ap, bp, lp'⟩ := p
  simp only [enc] at hbn r0
  rw [callI_eq]
  simp [body1_eq _ _ (gp 46) g46, c46, a46, enc, encs, hbn, hkey, b0, b1, r0, hjle, hjn, updS_len, -b_adds]
theorem kN4 (x y : Int) (p : Pi) (q : Pi) (hx : 0 ≤ x ∧ x < 30) (hy : 0 ≤ y ∧ y < 30) (sp : shape p = true) (hp : PN p) (sq : shape q = true) (hq : PN q) : PN (.mk 4 x y [p, q]) := by
  intro d hd hc
  have hs := Sh0
  simp only [cnt, cnts] at hc
  have cp := cnt_pos p
  have cq := cnt_pos q
  have lp := key_len σ0 d hs (by omega) p sp (by omega)
  have lq := key_len σ0 d hs (by omega) q sq (by omega)
  have hbn := kBindsI (.mk 4 x y [p, q])
  simp only [enc, encs, kbnd] at hbn
  have d0 := dg_len d (by omega)
  have dy := dg_len y (by omega)
  have sx := hs x
  have sy := hs y
  have id := eqItoaS d (by omega) []
  have iy := eqItoaS y (by omega) []
  have r0 := k2_nil p [p, q] [(3, .box [.i 4, .i x, .i y, .sl false 4 (encs [p, q])]), (4, .box [(.sc (.map none))]), (5, .box [.i d]), (8, .box [(.sc (.map none))])] x y 4 d 0 (by rfl) (by simp) (by simp [getO]) (by simp [getO]) (by simp [getO]) hd (by omega) hp
  simp only [encs, show ((0 : Nat) : Int) = 0 from rfl] at r0
  have r1 := k2_nil q [p, q] [(3, .box [.i 4, .i x, .i y, .sl false 4 (encs [p, q])]), (4, .box [(.sc (.map none))]), (5, .box [.i d]), (8, .box [(.sc (.map none))])] x y 4 d 1 (by rfl) (by simp) (by simp [getO]) (by simp [getO]) (by simp [getO]) hd (by omega) hq
  simp only [encs, show ((1 : Nat) : Int) = 1 from rfl] at r1
  have b0 := b_addS (a := [40, 115, 117, 109, 32]) (b := key σ0 d p) (by simp; omega)
  have b1 := b_addS (a := [40, 115, 117, 109, 32] ++ key σ0 d p) (b := [32]) (by simp; omega)
  have b2 := b_addS (a := [40, 115, 117, 109, 32] ++ key σ0 d p ++ [32]) (b := key σ0 d q) (by simp; omega)
  have b3 := b_addS (a := [40, 115, 117, 109, 32] ++ key σ0 d p ++ [32] ++ key σ0 d q) (b := [41]) (by simp; omega)
  simp only [List.append_assoc, List.cons_append, List.nil_append] at b0 b1 b2 b3
  have hkey : key σ0 d (.mk 4 x y [p, q]) = [40, 115, 117, 109, 32] ++ key σ0 d p ++ [32] ++ key σ0 d q ++ [41] := by simp [key, keys]
  simp only [List.append_assoc, List.cons_append, List.nil_append] at hkey
  obtain ⟨op, ap, bp, lp'⟩ := p
  obtain ⟨oq, aq, bq, lq'⟩ := q
  simp only [enc] at hbn r0 r1
  rw [callI_eq]
  simp [body1_eq _ _ (gp 46) g46, c46, a46, enc, encs, hbn, hkey, b0, b1, b2, b3, r0, r1, -b_adds]
theorem kM4 (x y : Int) (p : Pi) (q : Pi) (hx : 0 ≤ x ∧ x < 30) (hy : 0 ≤ y ∧ y < 30) (sp : shape p = true) (hp : PM p) (sq : shape q = true) (hq : PM q) : PM (.mk 4 x y [p, q]) := by
  intro σ d o j t es ob hs hd hc hT hn hE hj hob hM
  simp only [cnt, cnts] at hc
  have cp := cnt_pos p
  have cq := cnt_pos q
  have lp := key_len σ d hs (by omega) p sp (by omega)
  have lq := key_len σ d hs (by omega) q sq (by omega)
  have hbn := kBindsI (.mk 4 x y [p, q])
  simp only [enc, encs, kbnd] at hbn
  have d0 := dg_len d (by omega)
  have dy := dg_len y (by omega)
  have sx := hs x
  have sy := hs y
  have id := eqItoaS d (by omega) []
  have iy := eqItoaS y (by omega) []
  obtain ⟨ob0, hM0, r0⟩ := k2_mp p [p, q] σ o [(3, .box [.i 4, .i x, .i y, .sl false 4 (encs [p, q])]), (4, .box [(.mp (j, t))]), (5, .box [.i d]), (8, .box [(.mp (j, t))])] x y 4 d 0 j t es ob (by rfl) (by simp) (by simp [getO]) (by simp [getO]) (by simp [getO]) hs hd (by omega) hT hn hE (by simp; omega) (by rw [List.getElem?_append_left (by first | exact hj | (simp only [updS_len]; exact hj))]; exact hob) hM hp
  rw [updS_app _ _ _ _ _ (by exact hj)] at r0
  simp only [encs, show ((0 : Nat) : Int) = 0 from rfl] at r0
  obtain ⟨ob1, hM1, r1⟩ := k2_mp q [p, q] σ (updS o j t ob0) [(3, .box [.i 4, .i x, .i y, .sl false 4 (encs [p, q])]), (4, .box [(.mp (j, t))]), (5, .box [.i d]), (8, .box [(.mp (j, t))])] x y 4 d 1 j t es ob0 (by rfl) (by simp) (by simp [getO]) (by simp [getO]) (by simp [getO]) hs hd (by omega) hT hn hE (by simp [updS_len]; omega) (by rw [List.getElem?_append_left (by first | exact hj | (simp only [updS_len]; exact hj))]; exact (updS_get o j t _ hj)) hM0 hq
  rw [updS_app _ _ _ _ _ (by simp only [updS_len]; exact hj)] at r1
  simp only [updS_len, updS_updS] at r1
  simp only [encs, show ((1 : Nat) : Int) = 1 from rfl] at r1
  have b0 := b_addS (a := [40, 115, 117, 109, 32]) (b := key σ d p) (by simp; omega)
  have b1 := b_addS (a := [40, 115, 117, 109, 32] ++ key σ d p) (b := [32]) (by simp; omega)
  have b2 := b_addS (a := [40, 115, 117, 109, 32] ++ key σ d p ++ [32]) (b := key σ d q) (by simp; omega)
  have b3 := b_addS (a := [40, 115, 117, 109, 32] ++ key σ d p ++ [32] ++ key σ d q) (b := [41]) (by simp; omega)
  simp only [List.append_assoc, List.cons_append, List.nil_append] at b0 b1 b2 b3
  have hkey : key σ d (.mk 4 x y [p, q]) = [40, 115, 117, 109, 32] ++ key σ d p ++ [32] ++ key σ d q ++ [41] := by simp [key, keys]
  simp only [List.append_assoc, List.cons_append, List.nil_append] at hkey
  have hjle : j ≤ o.length := by omega
  refine ⟨ob1, hM1, ?_⟩
  have hjn : ¬ j = o.length := by omega
  obtain ⟨op, ap, bp, lp'⟩ := p
  obtain ⟨oq, aq, bq, lq'⟩ := q
  simp only [enc] at hbn r0 r1
  rw [callI_eq]
  simp [body1_eq _ _ (gp 46) g46, c46, a46, enc, encs, hbn, hkey, b0, b1, b2, b3, r0, r1, hjle, hjn, updS_len, -b_adds]
theorem kN5 (x y : Int) (p : Pi) (q : Pi) (hx : 0 ≤ x ∧ x < 30) (hy : 0 ≤ y ∧ y < 30) (sp : shape p = true) (hp : PN p) (sq : shape q = true) (hq : PN q) : PN (.mk 5 x y [p, q]) := by
  intro d hd hc
  have hs := Sh0
  simp only [cnt, cnts] at hc
  have cp := cnt_pos p
  have cq := cnt_pos q
  have lp := key_len σ0 d hs (by omega) p sp (by omega)
  have lq := key_len σ0 d hs (by omega) q sq (by omega)
  have hbn := kBindsI (.mk 5 x y [p, q])
  simp only [enc, encs, kbnd] at hbn
  have d0 := dg_len d (by omega)
  have dy := dg_len y (by omega)
  have sx := hs x
  have sy := hs y
  have id := eqItoaS d (by omega) []
  have iy := eqItoaS y (by omega) []
  have r0 := k2_nil p [p, q] [(3, .box [.i 5, .i x, .i y, .sl false 4 (encs [p, q])]), (4, .box [(.sc (.map none))]), (5, .box [.i d]), (8, .box [(.sc (.map none))])] x y 5 d 0 (by rfl) (by simp) (by simp [getO]) (by simp [getO]) (by simp [getO]) hd (by omega) hp
  simp only [encs, show ((0 : Nat) : Int) = 0 from rfl] at r0
  have r1 := k2_nil q [p, q] [(3, .box [.i 5, .i x, .i y, .sl false 4 (encs [p, q])]), (4, .box [(.sc (.map none))]), (5, .box [.i d]), (8, .box [(.sc (.map none))])] x y 5 d 1 (by rfl) (by simp) (by simp [getO]) (by simp [getO]) (by simp [getO]) hd (by omega) hq
  simp only [encs, show ((1 : Nat) : Int) = 1 from rfl] at r1
  have b0 := b_addS (a := [40, 112, 97, 114, 32]) (b := key σ0 d p) (by simp; omega)
  have b1 := b_addS (a := [40, 112, 97, 114, 32] ++ key σ0 d p) (b := [32]) (by simp; omega)
  have b2 := b_addS (a := [40, 112, 97, 114, 32] ++ key σ0 d p ++ [32]) (b := key σ0 d q) (by simp; omega)
  have b3 := b_addS (a := [40, 112, 97, 114, 32] ++ key σ0 d p ++ [32] ++ key σ0 d q) (b := [41]) (by simp; omega)
  simp only [List.append_assoc, List.cons_append, List.nil_append] at b0 b1 b2 b3
  have hkey : key σ0 d (.mk 5 x y [p, q]) = [40, 112, 97, 114, 32] ++ key σ0 d p ++ [32] ++ key σ0 d q ++ [41] := by simp [key, keys]
  simp only [List.append_assoc, List.cons_append, List.nil_append] at hkey
  obtain ⟨op, ap, bp, lp'⟩ := p
  obtain ⟨oq, aq, bq, lq'⟩ := q
  simp only [enc] at hbn r0 r1
  rw [callI_eq]
  simp [body1_eq _ _ (gp 46) g46, c46, a46, enc, encs, hbn, hkey, b0, b1, b2, b3, r0, r1, -b_adds]
theorem kM5 (x y : Int) (p : Pi) (q : Pi) (hx : 0 ≤ x ∧ x < 30) (hy : 0 ≤ y ∧ y < 30) (sp : shape p = true) (hp : PM p) (sq : shape q = true) (hq : PM q) : PM (.mk 5 x y [p, q]) := by
  intro σ d o j t es ob hs hd hc hT hn hE hj hob hM
  simp only [cnt, cnts] at hc
  have cp := cnt_pos p
  have cq := cnt_pos q
  have lp := key_len σ d hs (by omega) p sp (by omega)
  have lq := key_len σ d hs (by omega) q sq (by omega)
  have hbn := kBindsI (.mk 5 x y [p, q])
  simp only [enc, encs, kbnd] at hbn
  have d0 := dg_len d (by omega)
  have dy := dg_len y (by omega)
  have sx := hs x
  have sy := hs y
  have id := eqItoaS d (by omega) []
  have iy := eqItoaS y (by omega) []
  obtain ⟨ob0, hM0, r0⟩ := k2_mp p [p, q] σ o [(3, .box [.i 5, .i x, .i y, .sl false 4 (encs [p, q])]), (4, .box [(.mp (j, t))]), (5, .box [.i d]), (8, .box [(.mp (j, t))])] x y 5 d 0 j t es ob (by rfl) (by simp) (by simp [getO]) (by simp [getO]) (by simp [getO]) hs hd (by omega) hT hn hE (by simp; omega) (by rw [List.getElem?_append_left (by first | exact hj | (simp only [updS_len]; exact hj))]; exact hob) hM hp
  rw [updS_app _ _ _ _ _ (by exact hj)] at r0
  simp only [encs, show ((0 : Nat) : Int) = 0 from rfl] at r0
  obtain ⟨ob1, hM1, r1⟩ := k2_mp q [p, q] σ (updS o j t ob0) [(3, .box [.i 5, .i x, .i y, .sl false 4 (encs [p, q])]), (4, .box [(.mp (j, t))]), (5, .box [.i d]), (8, .box [(.mp (j, t))])] x y 5 d 1 j t es ob0 (by rfl) (by simp) (by simp [getO]) (by simp [getO]) (by simp [getO]) hs hd (by omega) hT hn hE (by simp [updS_len]; omega) (by rw [List.getElem?_append_left (by first | exact hj | (simp only [updS_len]; exact hj))]; exact (updS_get o j t _ hj)) hM0 hq
  rw [updS_app _ _ _ _ _ (by simp only [updS_len]; exact hj)] at r1
  simp only [updS_len, updS_updS] at r1
  simp only [encs, show ((1 : Nat) : Int) = 1 from rfl] at r1
  have b0 := b_addS (a := [40, 112, 97, 114, 32]) (b := key σ d p) (by simp; omega)
  have b1 := b_addS (a := [40, 112, 97, 114, 32] ++ key σ d p) (b := [32]) (by simp; omega)
  have b2 := b_addS (a := [40, 112, 97, 114, 32] ++ key σ d p ++ [32]) (b := key σ d q) (by simp; omega)
  have b3 := b_addS (a := [40, 112, 97, 114, 32] ++ key σ d p ++ [32] ++ key σ d q) (b := [41]) (by simp; omega)
  simp only [List.append_assoc, List.cons_append, List.nil_append] at b0 b1 b2 b3
  have hkey : key σ d (.mk 5 x y [p, q]) = [40, 112, 97, 114, 32] ++ key σ d p ++ [32] ++ key σ d q ++ [41] := by simp [key, keys]
  simp only [List.append_assoc, List.cons_append, List.nil_append] at hkey
  have hjle : j ≤ o.length := by omega
  refine ⟨ob1, hM1, ?_⟩
  have hjn : ¬ j = o.length := by omega
  obtain ⟨op, ap, bp, lp'⟩ := p
  obtain ⟨oq, aq, bq, lq'⟩ := q
  simp only [enc] at hbn r0 r1
  rw [callI_eq]
  simp [body1_eq _ _ (gp 46) g46, c46, a46, enc, encs, hbn, hkey, b0, b1, b2, b3, r0, r1, hjle, hjn, updS_len, -b_adds]
theorem kN6 (x y : Int) (p : Pi) (hx : 0 ≤ x ∧ x < 30) (hy : 0 ≤ y ∧ y < 30) (sp : shape p = true) (hp : PM p) : PN (.mk 6 x y [p]) := by
  intro d hd hc
  have hs := Sh0
  simp only [cnt, cnts] at hc
  have cp := cnt_pos p
  have lp := key_len (up σ0 x d) (d + 1) (hs.up x d (by omega)) (by omega) p sp (by omega)
  have hbn := kBindsI (.mk 6 x y [p])
  simp only [enc, encs, kbnd] at hbn
  have d0 := dg_len d (by omega)
  have dy := dg_len y (by omega)
  have sx := hs x
  have sy := hs y
  have id := eqItoaS d (by omega) []
  have iy := eqItoaS y (by omega) []
  obtain ⟨ob0, hM0, r0⟩ := k2_mp p [p] (up σ0 x d) ([] : Stack) [(3, .box [.i 6, .i x, .i y, .sl false 4 (encs [p])]), (4, .box [(.sc (.map none))]), (5, .box [.i (d + 1)]), (8, .box [.mp (0, 23)]), (23, .map false (ins (.i x) (.s (S (35 :: dg d))) []))] x y 6 (d + 1) 0 0 23 (ins (.i x) (.s (S (35 :: dg d))) []) (.map false (ins (.i x) (.s (S (35 :: dg d))) [])) (by rfl) (by simp) (by simp [getO]) (by simp [getO]) (by simp [getO]) (hs.up x d (by omega)) (by omega) (by omega) (Tol0.up x d) (ins_nodup (by simp)) (ins_okE _ _ _ (by intro q hq; cases hq)) (by simp) (by rw [show 0 = ([] : Stack).length from rfl]; simp [getO]) (.inl rfl) hp
  have e0 := updS_last [] [(3, .box [.i 6, .i x, .i y, .sl false 4 (encs [p])]), (4, .box [(.sc (.map none))]), (5, .box [.i (d + 1)]), (8, .box [.mp (0, 23)]), (23, .map false (ins (.i x) (.s (S (35 :: dg d))) []))] 23 ob0
  simp only [List.length_nil] at e0 r0
  rw [e0] at r0
  simp only [setO, List.nil_append] at r0
  simp only [encs, show ((0 : Nat) : Int) = 0 from rfl] at r0
  have hrange : ∀ s1 : St, s1.ev (.t 24) = (.sc (.map none)) → (entsOf s1 (.sc (.map none)) = some ([], ⟨rg4 ([] : Stack).length (.sc (.map none)) (S (35 :: dg d)) x, obA ([] : Stack).length [.i 6, .i x, .i y, .sl false 4 (encs [p])] [(.sc (.map none))] [.i d] [], []⟩)) → _ := fun s1 e1 e2 =>
    mstart_ok s1 [] 6 x y d (encs [p]) (.sc (.map none)) (S (35 :: dg d)) x (by intro g; rfl) [] (by simp) (by intro q hq; cases hq) e1 e2
  have hms := hrange ⟨rg4 0 (.sc (.map none)) (S (35 :: dg d)) x, obA 0 [.i 6, .i x, .i y, .sl false 4 (encs [p])] [(.sc (.map none))] [.i d] [], []⟩ rfl (by
    rfl)
  simp only [rg4, rgA, obA, encs, List.length_nil] at hms
  have hb0 := b_addS (a := [35]) (b := dg d) (by simp; omega)
  simp only [List.cons_append, List.nil_append] at hb0
  have hw : IntKind.i64.wrap (d + 1) = d + 1 := wr (by omega)
  have hge : ¬ x < 0 := by omega
  have b0 := b_addS (a := [40, 110, 101, 119, 32]) (b := (35 :: dg d)) (by simp; omega)
  have b1 := b_addS (a := [40, 110, 101, 119, 32] ++ (35 :: dg d)) (b := [32]) (by simp; omega)
  have b2 := b_addS (a := [40, 110, 101, 119, 32] ++ (35 :: dg d) ++ [32]) (b := dg y) (by simp; omega)
  have b3 := b_addS (a := [40, 110, 101, 119, 32] ++ (35 :: dg d) ++ [32] ++ dg y) (b := [32]) (by simp; omega)
  have b4 := b_addS (a := [40, 110, 101, 119, 32] ++ (35 :: dg d) ++ [32] ++ dg y ++ [32]) (b := key (up σ0 x d) (d + 1) p) (by simp; omega)
  have b5 := b_addS (a := [40, 110, 101, 119, 32] ++ (35 :: dg d) ++ [32] ++ dg y ++ [32] ++ key (up σ0 x d) (d + 1) p) (b := [41]) (by simp; omega)
  simp only [List.append_assoc, List.cons_append, List.nil_append] at b0 b1 b2 b3 b4 b5
  have hkey : key σ0 d (.mk 6 x y [p]) = [40, 110, 101, 119, 32] ++ (35 :: dg d) ++ [32] ++ dg y ++ [32] ++ key (up σ0 x d) (d + 1) p ++ [41] := by simp [key, keys]
  simp only [List.append_assoc, List.cons_append, List.nil_append] at hkey
  obtain ⟨op, ap, bp, lp'⟩ := p
  simp only [enc] at hbn r0 hms
  rw [callI_eq]
  simp [body1_eq _ _ (gp 46) g46, c46, a46, enc, encs, hbn, hkey, b0, b1, b2, b3, b4, b5, r0, hms, hb0, hw, hge, id, iy, -b_adds]
theorem kM6 (x y : Int) (p : Pi) (hx : 0 ≤ x ∧ x < 30) (hy : 0 ≤ y ∧ y < 30) (sp : shape p = true) (hp : PM p) : PM (.mk 6 x y [p]) := by
  intro σ d o j t es ob hs hd hc hT hn hE hj hob hM
  simp only [cnt, cnts] at hc
  have cp := cnt_pos p
  have lp := key_len (up σ x d) (d + 1) (hs.up x d (by omega)) (by omega) p sp (by omega)
  have hbn := kBindsI (.mk 6 x y [p])
  simp only [enc, encs, kbnd] at hbn
  have d0 := dg_len d (by omega)
  have dy := dg_len y (by omega)
  have sx := hs x
  have sy := hs y
  have id := eqItoaS d (by omega) []
  have iy := eqItoaS y (by omega) []
  let o1 := updS o j t (.fmap false es)
  have hlen : (updS o j t (.fmap false es)).length = o.length := updS_len _ _ _ _
  obtain ⟨ob0, hM0, r0⟩ := k2_mp p [p] (up σ x d) (updS o j t (.fmap false es)) [(3, .box [.i 6, .i x, .i y, .sl false 4 (encs [p])]), (4, .box [(.mp (j, t))]), (5, .box [.i (d + 1)]), (8, .box [.mp (o.length, 23)]), (23, .map false (ins (.i x) (.s (S (35 :: dg d))) es))] x y 6 (d + 1) 0 o.length 23 (ins (.i x) (.s (S (35 :: dg d))) es) (.map false (ins (.i x) (.s (S (35 :: dg d))) es)) (by rfl) (by simp) (by simp [getO]) (by simp [getO]) (by simp [getO]) (hs.up x d (by omega)) (by omega) (by omega) (hT.up x d) (ins_nodup hn) (ins_okE _ _ _ hE) (by simp [hlen]) (by rw [show o.length = (updS o j t (.fmap false es)).length from hlen.symm]; simp [getO]) (.inl rfl) hp
  have e0 := updS_last (updS o j t (.fmap false es)) [(3, .box [.i 6, .i x, .i y, .sl false 4 (encs [p])]), (4, .box [(.mp (j, t))]), (5, .box [.i (d + 1)]), (8, .box [.mp (o.length, 23)]), (23, .map false (ins (.i x) (.s (S (35 :: dg d))) es))] 23 ob0
  rw [hlen] at e0 r0
  rw [e0] at r0
  simp only [setO, List.nil_append] at r0
  simp only [encs, show ((0 : Nat) : Int) = 0 from rfl] at r0
  have hrange : ∀ s1 : St, s1.ev (.t 24) = (.mp (j, t)) → (entsOf s1 (.mp (j, t)) = some (es, ⟨rg4 o.length (.mp (j, t)) (S (35 :: dg d)) x, obA o.length [.i 6, .i x, .i y, .sl false 4 (encs [p])] [(.mp (j, t))] [.i d] [], updS o j t (.fmap false es)⟩)) → _ := fun s1 e1 e2 =>
    mstart_ok s1 (updS o j t (.fmap false es)) 6 x y d (encs [p]) (.mp (j, t)) (S (35 :: dg d)) x (by intro g; rw [hlen]; simp [known]; omega) es hn hE e1 (by rw [hlen]; exact e2)
  have hms := hrange ⟨rg4 o.length (.mp (j, t)) (S (35 :: dg d)) x, obA o.length [.i 6, .i x, .i y, .sl false 4 (encs [p])] [(.mp (j, t))] [.i d] [], o⟩ rfl (by
    have hjn : ¬ j = o.length := by omega
    rcases hM with rfl | rfl
    · simp [entsOf, St.get, St.set, hjn, hob, updS]
    · simp [entsOf, St.get, hjn, hob, updS_self o j t _ hob])
  simp only [rg4, rgA, obA, encs, List.length_nil, hlen] at hms
  have hb0 := b_addS (a := [35]) (b := dg d) (by simp; omega)
  simp only [List.cons_append, List.nil_append] at hb0
  have hw : IntKind.i64.wrap (d + 1) = d + 1 := wr (by omega)
  have hge : ¬ x < 0 := by omega
  have b0 := b_addS (a := [40, 110, 101, 119, 32]) (b := (35 :: dg d)) (by simp; omega)
  have b1 := b_addS (a := [40, 110, 101, 119, 32] ++ (35 :: dg d)) (b := [32]) (by simp; omega)
  have b2 := b_addS (a := [40, 110, 101, 119, 32] ++ (35 :: dg d) ++ [32]) (b := dg y) (by simp; omega)
  have b3 := b_addS (a := [40, 110, 101, 119, 32] ++ (35 :: dg d) ++ [32] ++ dg y) (b := [32]) (by simp; omega)
  have b4 := b_addS (a := [40, 110, 101, 119, 32] ++ (35 :: dg d) ++ [32] ++ dg y ++ [32]) (b := key (up σ x d) (d + 1) p) (by simp; omega)
  have b5 := b_addS (a := [40, 110, 101, 119, 32] ++ (35 :: dg d) ++ [32] ++ dg y ++ [32] ++ key (up σ x d) (d + 1) p) (b := [41]) (by simp; omega)
  simp only [List.append_assoc, List.cons_append, List.nil_append] at b0 b1 b2 b3 b4 b5
  have hkey : key σ d (.mk 6 x y [p]) = [40, 110, 101, 119, 32] ++ (35 :: dg d) ++ [32] ++ dg y ++ [32] ++ key (up σ x d) (d + 1) p ++ [41] := by simp [key, keys]
  simp only [List.append_assoc, List.cons_append, List.nil_append] at hkey
  have hjle : j ≤ o.length := by omega
  refine ⟨.fmap false es, .inr rfl, ?_⟩
  have hjn : ¬ j = o.length := by omega
  obtain ⟨op, ap, bp, lp'⟩ := p
  simp only [enc] at hbn r0 hms
  rw [callI_eq]
  simp [body1_eq _ _ (gp 46) g46, c46, a46, enc, encs, hbn, hkey, b0, b1, b2, b3, b4, b5, hlen, r0, hms, hb0, hw, hge, id, iy, hjle, hjn, updS_len, -b_adds]
theorem kN7 (x y : Int) (p : Pi) (hx : 0 ≤ x ∧ x < 30) (hy : 0 ≤ y ∧ y < 30) (sp : shape p = true) (hp : PN p) : PN (.mk 7 x y [p]) := by
  intro d hd hc
  have hs := Sh0
  simp only [cnt, cnts] at hc
  have cp := cnt_pos p
  have lp := key_len σ0 d hs (by omega) p sp (by omega)
  have hbn := kBindsI (.mk 7 x y [p])
  simp only [enc, encs, kbnd] at hbn
  have d0 := dg_len d (by omega)
  have dy := dg_len y (by omega)
  have sx := hs x
  have sy := hs y
  have id := eqItoaS d (by omega) []
  have iy := eqItoaS y (by omega) []
  have kx := k1_nil [(3, .box [.i 7, .i x, .i y, .sl false 4 (encs [p])]), (4, .box [(.sc (.map none))]), (5, .box [.i d]), (8, .box [(.sc (.map none))])] x hx (by simp [getO])
  simp only [encs, List.nil_append] at kx
  have ky := k1_nil [(3, .box [.i 7, .i x, .i y, .sl false 4 (encs [p])]), (4, .box [(.sc (.map none))]), (5, .box [.i d]), (8, .box [(.sc (.map none))])] y hy (by simp [getO])
  simp only [encs, List.nil_append] at ky
  have r0 := k2_nil p [p] [(3, .box [.i 7, .i x, .i y, .sl false 4 (encs [p])]), (4, .box [(.sc (.map none))]), (5, .box [.i d]), (8, .box [(.sc (.map none))])] x y 7 d 0 (by rfl) (by simp) (by simp [getO]) (by simp [getO]) (by simp [getO]) hd (by omega) hp
  simp only [encs, show ((0 : Nat) : Int) = 0 from rfl] at r0
  have b0 := b_addS (a := [40]) (b := σ0 x) (by simp; omega)
  have b1 := b_addS (a := [40] ++ σ0 x) (b := [61]) (by simp; omega)
  have b2 := b_addS (a := [40] ++ σ0 x ++ [61]) (b := σ0 y) (by simp; omega)
  have b3 := b_addS (a := [40] ++ σ0 x ++ [61] ++ σ0 y) (b := [32]) (by simp; omega)
  have b4 := b_addS (a := [40] ++ σ0 x ++ [61] ++ σ0 y ++ [32]) (b := key σ0 d p) (by simp; omega)
  have b5 := b_addS (a := [40] ++ σ0 x ++ [61] ++ σ0 y ++ [32] ++ key σ0 d p) (b := [41]) (by simp; omega)
  simp only [List.append_assoc, List.cons_append, List.nil_append] at b0 b1 b2 b3 b4 b5
  have hkey : key σ0 d (.mk 7 x y [p]) = [40] ++ σ0 x ++ [61] ++ σ0 y ++ [32] ++ key σ0 d p ++ [41] := by simp [key, keys]
  simp only [List.append_assoc, List.cons_append, List.nil_append] at hkey
  obtain ⟨op, ap, bp, lp'⟩ := p
  simp only [enc] at hbn kx ky r0
  rw [callI_eq]
  simp [body1_eq _ _ (gp 46) g46, c46, a46, enc, encs, hbn, hkey, b0, b1, b2, b3, b4, b5, kx, ky, r0, -b_adds]
theorem kM7 (x y : Int) (p : Pi) (hx : 0 ≤ x ∧ x < 30) (hy : 0 ≤ y ∧ y < 30) (sp : shape p = true) (hp : PM p) : PM (.mk 7 x y [p]) := by
  intro σ d o j t es ob hs hd hc hT hn hE hj hob hM
  simp only [cnt, cnts] at hc
  have cp := cnt_pos p
  have lp := key_len σ d hs (by omega) p sp (by omega)
  have hbn := kBindsI (.mk 7 x y [p])
  simp only [enc, encs, kbnd] at hbn
  have d0 := dg_len d (by omega)
  have dy := dg_len y (by omega)
  have sx := hs x
  have sy := hs y
  have id := eqItoaS d (by omega) []
  have iy := eqItoaS y (by omega) []
  have kx := k1_mp σ o [(3, .box [.i 7, .i x, .i y, .sl false 4 (encs [p])]), (4, .box [(.mp (j, t))]), (5, .box [.i d]), (8, .box [(.mp (j, t))])] j t es ob hT x hx (by simp [getO]) hj hob hM
  simp only [encs, List.nil_append] at kx
  have ky := k1_mp σ o [(3, .box [.i 7, .i x, .i y, .sl false 4 (encs [p])]), (4, .box [(.mp (j, t))]), (5, .box [.i d]), (8, .box [(.mp (j, t))])] j t es ob hT y hy (by simp [getO]) hj hob hM
  simp only [encs, List.nil_append] at ky
  obtain ⟨ob0, hM0, r0⟩ := k2_mp p [p] σ o [(3, .box [.i 7, .i x, .i y, .sl false 4 (encs [p])]), (4, .box [(.mp (j, t))]), (5, .box [.i d]), (8, .box [(.mp (j, t))])] x y 7 d 0 j t es ob (by rfl) (by simp) (by simp [getO]) (by simp [getO]) (by simp [getO]) hs hd (by omega) hT hn hE (by simp; omega) (by rw [List.getElem?_append_left (by first | exact hj | (simp only [updS_len]; exact hj))]; exact hob) hM hp
  rw [updS_app _ _ _ _ _ (by exact hj)] at r0
  simp only [encs, show ((0 : Nat) : Int) = 0 from rfl] at r0
  have b0 := b_addS (a := [40]) (b := σ x) (by simp; omega)
  have b1 := b_addS (a := [40] ++ σ x) (b := [61]) (by simp; omega)
  have b2 := b_addS (a := [40] ++ σ x ++ [61]) (b := σ y) (by simp; omega)
  have b3 := b_addS (a := [40] ++ σ x ++ [61] ++ σ y) (b := [32]) (by simp; omega)
  have b4 := b_addS (a := [40] ++ σ x ++ [61] ++ σ y ++ [32]) (b := key σ d p) (by simp; omega)
  have b5 := b_addS (a := [40] ++ σ x ++ [61] ++ σ y ++ [32] ++ key σ d p) (b := [41]) (by simp; omega)
  simp only [List.append_assoc, List.cons_append, List.nil_append] at b0 b1 b2 b3 b4 b5
  have hkey : key σ d (.mk 7 x y [p]) = [40] ++ σ x ++ [61] ++ σ y ++ [32] ++ key σ d p ++ [41] := by simp [key, keys]
  simp only [List.append_assoc, List.cons_append, List.nil_append] at hkey
  have hjle : j ≤ o.length := by omega
  refine ⟨ob0, hM0, ?_⟩
  have hjn : ¬ j = o.length := by omega
  obtain ⟨op, ap, bp, lp'⟩ := p
  simp only [enc] at hbn kx ky r0
  rw [callI_eq]
  simp [body1_eq _ _ (gp 46) g46, c46, a46, enc, encs, hbn, hkey, b0, b1, b2, b3, b4, b5, kx, ky, r0, hjle, hjn, updS_len, -b_adds]
end Go.Am
end
section
set_option maxRecDepth 10000
set_option maxHeartbeats 1000000
set_option linter.unusedSimpArgs false
set_option linter.unusedVariables false
namespace Go.Am
open Go.Proofs
theorem shape_len {o x y : Int} {ps : List Pi} (h : shape (.mk o x y ps) = true) : (o = 0 → ps.length = 0) ∧ (o = 1 ∨ o = 2 ∨ o = 3 ∨ o = 6 ∨ o = 7 → ps.length = 1) ∧ (o = 4 ∨ o = 5 → ps.length = 2) := by
  unfold shape kindOK at h
  refine ⟨fun e => ?_, fun e => ?_, fun e => ?_⟩
  · subst e; simp at h; rw [h.2.1]; rfl
  · rcases e with rfl | rfl | rfl | rfl | rfl <;> simp at h <;> omega
  · rcases e with rfl | rfl <;> simp at h <;> omega
theorem len0 {ps : List Pi} (h : ps.length = 0) : ps = [] := List.length_eq_zero_iff.1 h
theorem len1 {ps : List Pi} (h : ps.length = 1) : ∃ p, ps = [p] := List.length_eq_one_iff.1 h
theorem len2 {ps : List Pi} (h : ps.length = 2) : ∃ p q, ps = [p, q] := by
  match ps, h with
  | [p, q], _ => exact ⟨p, q, rfl⟩
mutual
theorem eqKeyM : ∀ (p : Pi), shape p = true → PM p
  | .mk o x y ps, h => by
    obtain ⟨hx, hy, hss, ho⟩ := shape_parts h
    obtain ⟨n0, n1, n2⟩ := shape_len h
    have ih := eqKeysM ps hss
    rcases ho with rfl | rfl | rfl | rfl | rfl | rfl | rfl | rfl
    · obtain rfl := len0 (n0 rfl); exact kM0 x y hx hy
    · obtain ⟨p, rfl⟩ := len1 (n1 (by omega)); simp only [shapes, Bool.and_true] at hss; exact kM1 x y p hx hy hss (ih p (by simp))
    · obtain ⟨p, rfl⟩ := len1 (n1 (by omega)); simp only [shapes, Bool.and_true] at hss; exact kM2 x y p hx hy hss (ih p (by simp))
    · obtain ⟨p, rfl⟩ := len1 (n1 (by omega)); simp only [shapes, Bool.and_true] at hss; exact kM3 x y p hx hy hss (ih p (by simp))
    · obtain ⟨p, q, rfl⟩ := len2 (n2 (by omega)); simp only [shapes, Bool.and_true, Bool.and_eq_true] at hss; exact kM4 x y p q hx hy hss.1 (ih p (by simp)) hss.2 (ih q (by simp))
    · obtain ⟨p, q, rfl⟩ := len2 (n2 (by omega)); simp only [shapes, Bool.and_true, Bool.and_eq_true] at hss; exact kM5 x y p q hx hy hss.1 (ih p (by simp)) hss.2 (ih q (by simp))
    · obtain ⟨p, rfl⟩ := len1 (n1 (by omega)); simp only [shapes, Bool.and_true] at hss; exact kM6 x y p hx hy hss (ih p (by simp))
    · obtain ⟨p, rfl⟩ := len1 (n1 (by omega)); simp only [shapes, Bool.and_true] at hss; exact kM7 x y p hx hy hss (ih p (by simp))
theorem eqKeysM : ∀ (ps : List Pi), shapes ps = true → ∀ p ∈ ps, PM p
  | [], _, p, h => by cases h
  | q :: ps, hss, p, h => by
    simp only [shapes, Bool.and_eq_true] at hss
    rcases List.mem_cons.1 h with h | h
    · rw [h]; exact eqKeyM q hss.1
    · exact eqKeysM ps hss.2 p h
end
mutual
theorem eqKeyN : ∀ (p : Pi), shape p = true → PN p
  | .mk o x y ps, h => by
    obtain ⟨hx, hy, hss, ho⟩ := shape_parts h
    obtain ⟨n0, n1, n2⟩ := shape_len h
    have ih := eqKeysN ps hss
    have im := eqKeysM ps hss
    rcases ho with rfl | rfl | rfl | rfl | rfl | rfl | rfl | rfl
    · obtain rfl := len0 (n0 rfl); exact kN0 x y hx hy
    · obtain ⟨p, rfl⟩ := len1 (n1 (by omega)); simp only [shapes, Bool.and_true] at hss; exact kN1 x y p hx hy hss (ih p (by simp))
    · obtain ⟨p, rfl⟩ := len1 (n1 (by omega)); simp only [shapes, Bool.and_true] at hss; exact kN2 x y p hx hy hss (im p (by simp))
    · obtain ⟨p, rfl⟩ := len1 (n1 (by omega)); simp only [shapes, Bool.and_true] at hss; exact kN3 x y p hx hy hss (ih p (by simp))
    · obtain ⟨p, q, rfl⟩ := len2 (n2 (by omega)); simp only [shapes, Bool.and_true, Bool.and_eq_true] at hss; exact kN4 x y p q hx hy hss.1 (ih p (by simp)) hss.2 (ih q (by simp))
    · obtain ⟨p, q, rfl⟩ := len2 (n2 (by omega)); simp only [shapes, Bool.and_true, Bool.and_eq_true] at hss; exact kN5 x y p q hx hy hss.1 (ih p (by simp)) hss.2 (ih q (by simp))
    · obtain ⟨p, rfl⟩ := len1 (n1 (by omega)); simp only [shapes, Bool.and_true] at hss; exact kN6 x y p hx hy hss (im p (by simp))
    · obtain ⟨p, rfl⟩ := len1 (n1 (by omega)); simp only [shapes, Bool.and_true] at hss; exact kN7 x y p hx hy hss (ih p (by simp))
theorem eqKeysN : ∀ (ps : List Pi), shapes ps = true → ∀ p ∈ ps, PN p
  | [], _, p, h => by cases h
  | q :: ps, hss, p, h => by
    simp only [shapes, Bool.and_eq_true] at hss
    rcases List.mem_cons.1 h with h | h
    · rw [h]; exact eqKeyN q hss.1
    · exact eqKeysN ps hss.2 p h
end
theorem kok_cnt {p : Pi} (hk : (decide (pn p 14 ≤ 14) && shape p) = true) : cnt p ≤ 14 ∧ shape p = true := by
  simp only [Bool.and_eq_true, decide_eq_true_eq] at hk
  refine ⟨?_, hk.2⟩
  have := pn_cnt p 14 (by omega)
  by_cases hc : cnt p ≤ 14
  · exact hc
  · have := this.2 (by omega); omega
theorem eqKeyOf (p : Pi) (hk : (decide (pn p 14 ≤ 14) && shape p) = true) : callI G 30 [enc p] [] = some (.s (S (pkey p)), []) := by
  obtain ⟨hc, hs⟩ := kok_cnt hk
  have h := eqKeyN p hs 0 (by omega) (by omega)
  rw [callI_eq]
  unfold pkey
  obtain ⟨o, x, y, ps⟩ := p
  simp only [enc] at h
  simp [body1_eq _ _ (gp 30) g30, c30, a30, enc, h, hk]
theorem eqPiKeyI (p : Pi) (hf : Fit p) : callI G 12 [enc p] [] = some (.s (S (pkey p)), []) := by
  have h12 := eq12 p hf
  rw [callI_eq]
  by_cases hk : (decide (pn p 14 ≤ 14) && shape p) = true
  · have h := eqKeyOf p hk
    rw [hk] at h12
    obtain ⟨o, x, y, ps⟩ := p
    simp only [enc] at h12 h
    simp [body1_eq _ _ (gp 12) g12, c12, a12, enc, h12, h]
  · have hk : (decide (pn p 14 ≤ 14) && shape p) = false := by simpa using hk
    rw [hk] at h12
    unfold pkey
    obtain ⟨o, x, y, ps⟩ := p
    simp only [enc] at h12
    simp [body1_eq _ _ (gp 12) g12, c12, a12, enc, h12, hk]
end Go.Am
end
section
set_option maxRecDepth 10000
set_option maxHeartbeats 1000000
set_option linter.unusedSimpArgs false
set_option linter.unusedVariables false
namespace Go.Am
open Go.Proofs
def okB (p : Pi) : Bool := decide (pn p 14 ≤ 14) && shape p
def alpha (p q : Pi) : Bool := (okB p && okB q) && ((S (pkey p)).toList == (S (pkey q)).toList)
theorem eqAlphaI (p q : Pi) (hp : Fit p) (hq : Fit q) : callI G 15 [enc p, enc q] [] = some (.b (alpha p q), []) := by
  have a1 := eq12 p hp
  have a2 := eq12 q hq
  change callI G 17 [enc p] [] = some (.b (okB p), []) at a1
  change callI G 17 [enc q] [] = some (.b (okB q), []) at a2
  rw [callI_eq]
  unfold alpha
  by_cases h1 : okB p = true
  · have k1 := eqKeyOf p h1
    by_cases h2 : okB q = true
    · have k2 := eqKeyOf q h2
      obtain ⟨o, x, y, ps⟩ := p
      obtain ⟨o', x', y', ps'⟩ := q
      simp only [enc] at a1 a2 k1 k2
      simp [body1_eq _ _ (gp 15) g15, c15, a15, enc, a1, a2, k1, k2, h1, h2]
    · have h2 : okB q = false := by simpa using h2
      obtain ⟨o, x, y, ps⟩ := p
      obtain ⟨o', x', y', ps'⟩ := q
      simp only [enc] at a1 a2
      simp [body1_eq _ _ (gp 15) g15, c15, a15, enc, a1, a2, h1, h2]
  · have h1 : okB p = false := by simpa using h1
    obtain ⟨o, x, y, ps⟩ := p
    obtain ⟨o', x', y', ps'⟩ := q
    simp only [enc] at a1 a2
    simp [body1_eq _ _ (gp 15) g15, c15, a15, enc, a1, a2, h1]
end Go.Am
end
section
set_option maxRecDepth 10000
set_option maxHeartbeats 4000000
set_option linter.unusedSimpArgs false
set_option linter.unusedVariables false
namespace Go.Am
open Go.Proofs
theorem S_list (a : List UInt8) : (S a).toList = a := by rw [ByteArray.toList_eq]; simp [S, -toS]
theorem uPiOkI (t : Pi) (hf : Fit t) : callI H 17 [encV false t] [] = some (.b (okB t), []) := by
  rw [callI_prim' (p := viaP G 17 (weak 4)) rfl]
  simp only [viaP, List.map_cons, List.map_nil, weak_encV]
  exact eq12 t hf
theorem uPiOkS (t : Pi) (hf : Fit t) : callI H 18 [encV false t] [] = some (.b (okB t), []) := by
  rw [callI_prim' (p := viaP G 18 (weak 4)) rfl]
  simp only [viaP, List.map_cons, List.map_nil, weak_encV]
  have := eq10 t hf
  rw [plain_ok] at this
  exact this
theorem uKeyI (t : Pi) (hf : Fit t) : callI H 12 [encV false t] [] = some (.s (S (pkey t)), []) := by
  rw [callI_prim' (p := viaP G 12 (weak 4)) rfl]
  simp only [viaP, List.map_cons, List.map_nil, weak_encV]
  exact eqPiKeyI t hf
theorem uAlpha (t u : Pi) (hf : Fit t) (hu : Fit u) : callI H 15 [encV false t, encV false u] [] = some (.b (alpha t u), []) := by
  rw [callI_prim' (p := viaP G 15 (weak 4)) rfl]
  simp only [viaP, List.map_cons, List.map_nil, weak_encV]
  exact eqAlphaI t u hf hu
theorem alpha_self (t : Pi) : alpha t t = okB t := by simp [alpha]
theorem pkey_nil (t : Pi) : (pkey t = []) = (okB t = false) := by
  unfold pkey okB
  by_cases h : (decide (pn t 14 ≤ 14) && shape t) = true
  · rw [if_pos h, h]
    obtain ⟨o, x, y, ps⟩ := t
    simp only [key]
    repeat' split
    all_goals simp
  · have h : (decide (pn t 14 ≤ 14) && shape t) = false := by simpa using h
    rw [h]; simp
mutual
theorem fal_encVF : ∀ p : Pi, fal (encV false p) = encV false p
  | .mk o x y ps => by
    simp only [encV, fal, fals]
    rw [fal_encWF ps]
theorem fal_encWF : ∀ ps : List Pi, fal (encW false ps) = encW false ps
  | [] => by simp [encW, fal]
  | p :: ps => by
    simp only [encW, fal, fals]
    rw [fal_encVF p, fals_encVsF ps]
theorem fals_encVsF : ∀ ps : List Pi, fals (encVs false ps) = encVs false ps
  | [] => by simp [encVs, fals]
  | p :: ps => by
    simp only [encVs, fals]
    rw [fal_encVF p, fals_encVsF ps]
end
theorem eqDrawPiOk (B : List Nat) (hB : B.length ≤ 9223372036854775807) (hb : ∀ b ∈ B, b < 256) : ∃ t, Nums t ∧ callI H 16 [.sl false 1 (byVs B)] [] = some (encV true t, []) := by
  obtain ⟨B', h1, h2, h3⟩ := eqOpen B hB
  have hr : RdrOK B' 0 := ⟨h1, fun b hb' => hb b (h2 b hb'), by omega, by omega⟩
  obtain ⟨t, q, e1, e2, nt, e3⟩ := eqDrawPi [[(2, .box [.i 0, .i 0, .i 0, .nils]), (6, rd B' 0)]] (0, 6) (by simp) B' 0 hr (by omega)
  have es : ∀ q, setS [[(2, .box [.i 0, .i 0, .i 0, .nils]), (6, rd B' 0)]] (0, 6) (rd B' q) = [[(2, .box [.i 0, .i 0, .i 0, .nils]), (6, rd B' q)]] := fun _ => rfl
  rw [es, es] at e3
  refine ⟨t, nt, ?_⟩
  rw [callI_eq]
  obtain ⟨to, tx, ty, tp, rfl, ⟨rfl, ht⟩ | ⟨ht, hE⟩⟩ := encV_two t <;>
    (rw [ht] at e3
     simp only [rd] at e3
     simp [body1_eq _ _ (gpH 16) g16, c16, a16, h3, e3, encVs_len, encV]
     try simp only [encW, hE]
     try simp only [encW])
theorem lawFnPiOk (B : List Nat) (hB : B.length ≤ 9223372036854775807) (hb : ∀ b ∈ B, b < 256) : callI H 5 [.sl false 1 (byVs B)] [] = some (.b true, []) := by
  rw [callI_eq]
  have hBl := byVs_len B
  by_cases hbig : (1048576 : Int) < B.length
  · simp [body1_eq _ _ (gpH 5) g5, c5, a5, hBl, hbig]
  obtain ⟨t, nt, hd⟩ := eqDrawPiOk B hB hb
  have hfit := nt.fit
  have h1 := uPiOkI t hfit
  have h2 := uPiOkS t hfit
  have h3 := uKeyI t hfit
  have h4 := uAlpha t t hfit hfit
  have hk := pkey_nil t
  rw [alpha_self] at h4
  generalize okB t = ok at *
  generalize pkey t = K at *
  obtain ⟨to, tx, ty, tp, rfl, ⟨rfl, ht⟩ | ⟨ht, hE⟩⟩ := encV_two t
  · rw [ht] at hd
    simp only [encV, encW] at h1 h2 h3 h4
    cases ok <;> simp at hk <;> simp [body1_eq _ _ (gpH 5) g5, c5, a5, hBl, hbig, hd, h1, h2, h3, h4, S_list, hk]
  · have hW : encW false tp = .sl false 4 (encVs false tp) := by
      have := congrArg fal hE
      rw [fal_encW] at this
      simpa [fal, fals_encVs] using this
    rw [ht] at hd
    simp only [encV, hW] at h1 h2 h3 h4
    cases ok <;> simp at hk <;> simp [body1_eq _ _ (gpH 5) g5, c5, a5, hBl, hbig, hd, h1, h2, h3, h4, S_list, hk, encVs_len, fals_encVs, fals_encVsF]
end Go.Am
end
