/- What the functions that the law reaches compute. -/
import Derived.Test.YtifjnagbhfnmgaaDoorEqB
import Derived.Test.YtifjnagbhfnmgaaDoorEqA
import Derived.Test.YtifjnagbhfnmgaaDoorAnD
section
set_option maxRecDepth 10000
set_option maxHeartbeats 2000000
set_option linter.unusedSimpArgs false
set_option linter.unusedVariables false
namespace Go.Am
open Go.Proofs
theorem lkp_ins (k k' : Key) (x : PV) : ∀ es : List (Key × PV), lkp k (ins k' x es) = if k' = k then some x else lkp k es
  | [] => by simp [ins, lkp]
  | (k2, y) :: es => by
    simp only [ins]
    by_cases h : k2 = k'
    · subst h
      by_cases h2 : k2 = k <;> simp [lkp, h2]
    · by_cases h2 : k2 = k
      · subst h2
        have : ¬ k' = k2 := fun e => h e.symm
        simp [lkp, h, this]
      · simp [lkp, h, h2, lkp_ins k k' x es]
theorem ins_okE (k : Int) (b : ByteArray) (es : List (Key × PV)) (h : okE es) : okE (ins (.i k) (.s b) es) := by
  induction es with
  | nil => intro q hq; simp [ins] at hq; exact ⟨k, b, hq⟩
  | cons p es ih =>
    obtain ⟨k2, y⟩ := p
    intro q hq
    simp only [ins] at hq
    split at hq
    · rcases List.mem_cons.1 hq with rfl | hq
      · exact ⟨k, b, rfl⟩
      · exact h q (List.mem_cons_of_mem _ hq)
    · rcases List.mem_cons.1 hq with rfl | hq
      · exact h _ List.mem_cons_self
      · exact ih (fun q hq => h q (List.mem_cons_of_mem _ hq)) q hq
theorem Tol.up {σ : Int → List UInt8} {es : List (Key × PV)} (h : Tol σ es) (n d : Int) : Tol (up σ n d) (ins (.i n) (.s (S (35 :: dg d))) es) := by
  intro k h0 h1
  rw [lkp_ins]
  by_cases hk : k = n
  · subst hk; left; simp [Am.up]
  · have h2 : ¬ n = k := fun e => hk e.symm
    have h3 : ¬ Key.i n = Key.i k := fun e => h2 (by injection e)
    rw [if_neg h3]
    simpa [Am.up, hk] using h k h0 h1
theorem Tol0 : Tol σ0 [] := fun k _ _ => .inr ⟨rfl, rfl⟩
theorem kN0 (x y : Int) (hx : 0 ≤ x ∧ x < 30) (hy : 0 ≤ y ∧ y < 30) : PN (.mk 0 x y []) := by
  intro d hd hc
  have hs := Sh0
  simp only [cnt, cnts] at hc
  have hbn := kBindsI (.mk 0 x y [])
  simp only [enc, encs, kbnd] at hbn
  have d0 := dg_len d (by omega)
  have dy := dg_len y (by omega)
  have sx := hs x
  have sy := hs y
  have id := eqItoaS d (by omega) []
  have iy := eqItoaS y (by omega) []
  have hkey : key σ0 d (.mk 0 x y []) = [48] := by simp [key, keys]
  rw [callI_eq]
  simp [body1_eq _ _ (gp 46) g46, c46, a46, enc, encs, hbn, hkey, -b_adds]
theorem kM0 (x y : Int) (hx : 0 ≤ x ∧ x < 30) (hy : 0 ≤ y ∧ y < 30) : PM (.mk 0 x y []) := by
  intro σ d o j t es ob hs hd hc hT hn hE hj hob hM
  simp only [cnt, cnts] at hc
  have hbn := kBindsI (.mk 0 x y [])
  simp only [enc, encs, kbnd] at hbn
  have d0 := dg_len d (by omega)
  have dy := dg_len y (by omega)
  have sx := hs x
  have sy := hs y
  have id := eqItoaS d (by omega) []
  have iy := eqItoaS y (by omega) []
  have hkey : key σ d (.mk 0 x y []) = [48] := by simp [key, keys]
  have hjle : j ≤ o.length := by omega
  refine ⟨ob, hM, ?_⟩
  rw [updS_self o j t ob hob]
  have hjn : ¬ j = o.length := by omega
  rw [callI_eq]
  simp [body1_eq _ _ (gp 46) g46, c46, a46, enc, encs, hbn, hkey, hjle, hjn, updS_len, -b_adds]
theorem kN1 (x y : Int) (p : Pi) (hx : 0 ≤ x ∧ x < 30) (hy : 0 ≤ y ∧ y < 30) (sp : shape p = true) (hp : PN p) : PN (.mk 1 x y [p]) := by
  intro d hd hc
  have hs := Sh0
  simp only [cnt, cnts] at hc
  have cp := cnt_pos p
  have lp := key_len σ0 d hs (by omega) p sp (by omega)
  have hbn := kBindsI (.mk 1 x y [p])
  simp only [enc, encs, kbnd] at hbn
  have d0 := dg_len d (by omega)
  have dy := dg_len y (by omega)
  have sx := hs x
  have sy := hs y
  have id := eqItoaS d (by omega) []
  have iy := eqItoaS y (by omega) []
  have kx := k1_nil [(3, .box [.i 1, .i x, .i y, .sl false 4 (encs [p])]), (4, .box [(.sc (.map none))]), (5, .box [.i d]), (8, .box [(.sc (.map none))])] x hx (by simp [getO])
  simp only [encs, List.nil_append] at kx
  have ky := k1_nil [(3, .box [.i 1, .i x, .i y, .sl false 4 (encs [p])]), (4, .box [(.sc (.map none))]), (5, .box [.i d]), (8, .box [(.sc (.map none))])] y hy (by simp [getO])
  simp only [encs, List.nil_append] at ky
  have r0 := k2_nil p [p] [(3, .box [.i 1, .i x, .i y, .sl false 4 (encs [p])]), (4, .box [(.sc (.map none))]), (5, .box [.i d]), (8, .box [(.sc (.map none))])] x y 1 d 0 (by rfl) (by simp) (by simp [getO]) (by simp [getO]) (by simp [getO]) hd (by omega) hp
  simp only [encs, show ((0 : Nat) : Int) = 0 from rfl] at r0
  have b0 := b_addS (a := [40]) (b := σ0 x) (by simp; omega)
  have b1 := b_addS (a := [40] ++ σ0 x) (b := [33]) (by simp; omega)
  have b2 := b_addS (a := [40] ++ σ0 x ++ [33]) (b := σ0 y) (by simp; omega)
  have b3 := b_addS (a := [40] ++ σ0 x ++ [33] ++ σ0 y) (b := [32]) (by simp; omega)
  have b4 := b_addS (a := [40] ++ σ0 x ++ [33] ++ σ0 y ++ [32]) (b := key σ0 d p) (by simp; omega)
  have b5 := b_addS (a := [40] ++ σ0 x ++ [33] ++ σ0 y ++ [32] ++ key σ0 d p) (b := [41]) (by simp; omega)
  simp only [List.append_assoc, List.cons_append, List.nil_append] at b0 b1 b2 b3 b4 b5
  have hkey : key σ0 d (.mk 1 x y [p]) = [40] ++ σ0 x ++ [33] ++ σ0 y ++ [32] ++ key σ0 d p ++ [41] := by simp [key, keys]
  simp only [List.append_assoc, List.cons_append, List.nil_append] at hkey
  obtain ⟨op, ap, bp, lp'⟩ := p
  simp only [enc] at hbn kx ky r0
  rw [callI_eq]
  simp [body1_eq _ _ (gp 46) g46, c46, a46, enc, encs, hbn, hkey, b0, b1, b2, b3, b4, b5, kx, ky, r0, -b_adds]
theorem kM1 (x y : Int) (p : Pi) (hx : 0 ≤ x ∧ x < 30) (hy : 0 ≤ y ∧ y < 30) (sp : shape p = true) (hp : PM p) : PM (.mk 1 x y [p]) := by
  intro σ d o j t es ob hs hd hc hT hn hE hj hob hM
  simp only [cnt, cnts] at hc
  have cp := cnt_pos p
  have lp := key_len σ d hs (by omega) p sp (by omega)
  have hbn := kBindsI (.mk 1 x y [p])
  simp only [enc, encs, kbnd] at hbn
  have d0 := dg_len d (by omega)
  have dy := dg_len y (by omega)
  have sx := hs x
  have sy := hs y
  have id := eqItoaS d (by omega) []
  have iy := eqItoaS y (by omega) []
  have kx := k1_mp σ o [(3, .box [.i 1, .i x, .i y, .sl false 4 (encs [p])]), (4, .box [(.mp (j, t))]), (5, .box [.i d]), (8, .box [(.mp (j, t))])] j t es ob hT x hx (by simp [getO]) hj hob hM
  simp only [encs, List.nil_append] at kx
  have ky := k1_mp σ o [(3, .box [.i 1, .i x, .i y, .sl false 4 (encs [p])]), (4, .box [(.mp (j, t))]), (5, .box [.i d]), (8, .box [(.mp (j, t))])] j t es ob hT y hy (by simp [getO]) hj hob hM
  simp only [encs, List.nil_append] at ky
  obtain ⟨ob0, hM0, r0⟩ := k2_mp p [p] σ o [(3, .box [.i 1, .i x, .i y, .sl false 4 (encs [p])]), (4, .box [(.mp (j, t))]), (5, .box [.i d]), (8, .box [(.mp (j, t))])] x y 1 d 0 j t es ob (by rfl) (by simp) (by simp [getO]) (by simp [getO]) (by simp [getO]) hs hd (by omega) hT hn hE (by simp; omega) (by rw [List.getElem?_append_left (by first | exact hj | (simp only [updS_len]; exact hj))]; exact hob) hM hp
  rw [updS_app _ _ _ _ _ (by exact hj)] at r0
  simp only [encs, show ((0 : Nat) : Int) = 0 from rfl] at r0
  have b0 := b_addS (a := [40]) (b := σ x) (by simp; omega)
  have b1 := b_addS (a := [40] ++ σ x) (b := [33]) (by simp; omega)
  have b2 := b_addS (a := [40] ++ σ x ++ [33]) (b := σ y) (by simp; omega)
  have b3 := b_addS (a := [40] ++ σ x ++ [33] ++ σ y) (b := [32]) (by simp; omega)
  have b4 := b_addS (a := [40] ++ σ x ++ [33] ++ σ y ++ [32]) (b := key σ d p) (by simp; omega)
  have b5 := b_addS (a := [40] ++ σ x ++ [33] ++ σ y ++ [32] ++ key σ d p) (b := [41]) (by simp; omega)
  simp only [List.append_assoc, List.cons_append, List.nil_append] at b0 b1 b2 b3 b4 b5
  have hkey : key σ d (.mk 1 x y [p]) = [40] ++ σ x ++ [33] ++ σ y ++ [32] ++ key σ d p ++ [41] := by simp [key, keys]
  simp only [List.append_assoc, List.cons_append, List.nil_append] at hkey
  have hjle : j ≤ o.length := by omega
  refine ⟨ob0, hM0, ?_⟩
  have hjn : ¬ j = o.length := by omega
  obtain ⟨op, ap, bp, lp'⟩ := p
  simp only [enc] at hbn kx ky r0
  rw [callI_eq]
  simp [body1_eq _ _ (gp 46) g46, c46, a46, enc, encs, hbn, hkey, b0, b1, b2, b3, b4, b5, kx, ky, r0, hjle, hjn, updS_len, -b_adds]
theorem kN2 (x y : Int) (p : Pi) (hx : 0 ≤ x ∧ x < 30) (hy : 0 ≤ y ∧ y < 30) (sp : shape p = true) (hp : PM p) : PN (.mk 2 x y [p]) := by
  intro d hd hc
  have hs := Sh0
  simp only [cnt, cnts] at hc
  have cp := cnt_pos p
  have lp := key_len (up σ0 y d) (d + 1) (hs.up y d (by omega)) (by omega) p sp (by omega)
  have hbn := kBindsI (.mk 2 x y [p])
  simp only [enc, encs, kbnd] at hbn
  have d0 := dg_len d (by omega)
  have dy := dg_len y (by omega)
  have sx := hs x
  have sy := hs y
  have id := eqItoaS d (by omega) []
  have iy := eqItoaS y (by omega) []
  have kx := k1_nil [(3, .box [.i 2, .i x, .i y, .sl false 4 (encs [p])]), (4, .box [(.sc (.map none))]), (5, .box [.i (d + 1)]), (8, .box [.mp (0, 23)]), (23, .map false (ins (.i y) (.s (S (35 :: dg d))) []))] x hx (by simp [getO])
  simp only [encs, List.nil_append] at kx
  obtain ⟨ob0, hM0, r0⟩ := k2_mp p [p] (up σ0 y d) ([] : Stack) [(3, .box [.i 2, .i x, .i y, .sl false 4 (encs [p])]), (4, .box [(.sc (.map none))]), (5, .box [.i (d + 1)]), (8, .box [.mp (0, 23)]), (23, .map false (ins (.i y) (.s (S (35 :: dg d))) []))] x y 2 (d + 1) 0 0 23 (ins (.i y) (.s (S (35 :: dg d))) []) (.map false (ins (.i y) (.s (S (35 :: dg d))) [])) (by rfl) (by simp) (by simp [getO]) (by simp [getO]) (by simp [getO]) (hs.up y d (by omega)) (by omega) (by omega) (Tol0.up y d) (ins_nodup (by simp)) (ins_okE _ _ _ (by intro q hq; cases hq)) (by simp) (by rw [show 0 = ([] : Stack).length from rfl]; simp [getO]) (.inl rfl) hp
  have e0 := updS_last [] [(3, .box [.i 2, .i x, .i y, .sl false 4 (encs [p])]), (4, .box [(.sc (.map none))]), (5, .box [.i (d + 1)]), (8, .box [.mp (0, 23)]), (23, .map false (ins (.i y) (.s (S (35 :: dg d))) []))] 23 ob0
  simp only [List.length_nil] at e0 r0
  rw [e0] at r0
  simp only [setO, List.nil_append] at r0
  simp only [encs, show ((0 : Nat) : Int) = 0 from rfl] at r0
  have hrange : ∀ s1 : St, s1.ev (.t 24) = (.sc (.map none)) → (entsOf s1 (.sc (.map none)) = some ([], ⟨rg4 ([] : Stack).length (.sc (.map none)) (S (35 :: dg d)) y, obA ([] : Stack).length [.i 2, .i x, .i y, .sl false 4 (encs [p])] [(.sc (.map none))] [.i d] [], []⟩)) → _ := fun s1 e1 e2 =>
    mstart_ok s1 [] 2 x y d (encs [p]) (.sc (.map none)) (S (35 :: dg d)) y (by intro g; rfl) [] (by simp) (by intro q hq; cases hq) e1 e2
  have hms := hrange ⟨rg4 0 (.sc (.map none)) (S (35 :: dg d)) y, obA 0 [.i 2, .i x, .i y, .sl false 4 (encs [p])] [(.sc (.map none))] [.i d] [], []⟩ rfl (by
    rfl)
  simp only [rg4, rgA, obA, encs, List.length_nil] at hms
  have hb0 := b_addS (a := [35]) (b := dg d) (by simp; omega)
  simp only [List.cons_append, List.nil_append] at hb0
  have hw : IntKind.i64.wrap (d + 1) = d + 1 := wr (by omega)
  have hge : ¬ y < 0 := by omega
  have b0 := b_addS (a := [40]) (b := σ0 x) (by simp; omega)
  have b1 := b_addS (a := [40] ++ σ0 x) (b := [63]) (by simp; omega)
  have b2 := b_addS (a := [40] ++ σ0 x ++ [63]) (b := (35 :: dg d)) (by simp; omega)
  have b3 := b_addS (a := [40] ++ σ0 x ++ [63] ++ (35 :: dg d)) (b := [32]) (by simp; omega)
  have b4 := b_addS (a := [40] ++ σ0 x ++ [63] ++ (35 :: dg d) ++ [32]) (b := key (up σ0 y d) (d + 1) p) (by simp; omega)
  have b5 := b_addS (a := [40] ++ σ0 x ++ [63] ++ (35 :: dg d) ++ [32] ++ key (up σ0 y d) (d + 1) p) (b := [41]) (by simp; omega)
  simp only [List.append_assoc, List.cons_append, List.nil_append] at b0 b1 b2 b3 b4 b5
  have hkey : key σ0 d (.mk 2 x y [p]) = [40] ++ σ0 x ++ [63] ++ (35 :: dg d) ++ [32] ++ key (up σ0 y d) (d + 1) p ++ [41] := by simp [key, keys]
  simp only [List.append_assoc, List.cons_append, List.nil_append] at hkey
  obtain ⟨op, ap, bp, lp'⟩ := p
  simp only [enc] at hbn kx r0 hms
  rw [callI_eq]
  simp [body1_eq _ _ (gp 46) g46, c46, a46, enc, encs, hbn, hkey, b0, b1, b2, b3, b4, b5, kx, r0, hms, hb0, hw, hge, id, iy, -b_adds]
theorem kM2 (x y : Int) (p : Pi) (hx : 0 ≤ x ∧ x < 30) (hy : 0 ≤ y ∧ y < 30) (sp : shape p = true) (hp : PM p) : PM (.mk 2 x y [p]) := by
  intro σ d o j t es ob hs hd hc hT hn hE hj hob hM
  simp only [cnt, cnts] at hc
  have cp := cnt_pos p
  have lp := key_len (up σ y d) (d + 1) (hs.up y d (by omega)) (by omega) p sp (by omega)
  have hbn := kBindsI (.mk 2 x y [p])
  simp only [enc, encs, kbnd] at hbn
  have d0 := dg_len d (by omega)
  have dy := dg_len y (by omega)
  have sx := hs x
  have sy := hs y
  have id := eqItoaS d (by omega) []
  have iy := eqItoaS y (by omega) []
  let o1 := updS o j t (.fmap false es)
  have hlen : (updS o j t (.fmap false es)).length = o.length := updS_len _ _ _ _
  have kx := k1_mp σ (updS o j t (.fmap false es)) [(3, .box [.i 2, .i x, .i y, .sl false 4 (encs [p])]), (4, .box [(.mp (j, t))]), (5, .box [.i (d + 1)]), (8, .box [.mp (o.length, 23)]), (23, .map false (ins (.i y) (.s (S (35 :: dg d))) es))] j t es (.fmap false es) hT x hx (by simp [getO]) (by rw [hlen]; exact hj) (updS_get o j t _ hj) (.inr rfl)
  rw [hlen] at kx
  simp only [encs, List.nil_append] at kx
  obtain ⟨ob0, hM0, r0⟩ := k2_mp p [p] (up σ y d) (updS o j t (.fmap false es)) [(3, .box [.i 2, .i x, .i y, .sl false 4 (encs [p])]), (4, .box [(.mp (j, t))]), (5, .box [.i (d + 1)]), (8, .box [.mp (o.length, 23)]), (23, .map false (ins (.i y) (.s (S (35 :: dg d))) es))] x y 2 (d + 1) 0 o.length 23 (ins (.i y) (.s (S (35 :: dg d))) es) (.map false (ins (.i y) (.s (S (35 :: dg d))) es)) (by rfl) (by simp) (by simp [getO]) (by simp [getO]) (by simp [getO]) (hs.up y d (by omega)) (by omega) (by omega) (hT.up y d) (ins_nodup hn) (ins_okE _ _ _ hE) (by simp [hlen]) (by rw [show o.length = (updS o j t (.fmap false es)).length from hlen.symm]; simp [getO]) (.inl rfl) hp
  have e0 := updS_last (updS o j t (.fmap false es)) [(3, .box [.i 2, .i x, .i y, .sl false 4 (encs [p])]), (4, .box [(.mp (j, t))]), (5, .box [.i (d + 1)]), (8, .box [.mp (o.length, 23)]), (23, .map false (ins (.i y) (.s (S (35 :: dg d))) es))] 23 ob0
  rw [hlen] at e0 r0
  rw [e0] at r0
  simp only [setO, List.nil_append] at r0
  simp only [encs, show ((0 : Nat) : Int) = 0 from rfl] at r0
  have hrange : ∀ s1 : St, s1.ev (.t 24) = (.mp (j, t)) → (entsOf s1 (.mp (j, t)) = some (es, ⟨rg4 o.length (.mp (j, t)) (S (35 :: dg d)) y, obA o.length [.i 2, .i x, .i y, .sl false 4 (encs [p])] [(.mp (j, t))] [.i d] [], updS o j t (.fmap false es)⟩)) → _ := fun s1 e1 e2 =>
    mstart_ok s1 (updS o j t (.fmap false es)) 2 x y d (encs [p]) (.mp (j, t)) (S (35 :: dg d)) y (by intro g; rw [hlen]; simp [known]; omega) es hn hE e1 (by rw [hlen]; exact e2)
  have hms := hrange ⟨rg4 o.length (.mp (j, t)) (S (35 :: dg d)) y, obA o.length [.i 2, .i x, .i y, .sl false 4 (encs [p])] [(.mp (j, t))] [.i d] [], o⟩ rfl (by
    have hjn : ¬ j = o.length := by omega
    rcases hM with rfl | rfl
    · simp [entsOf, St.get, St.set, hjn, hob, updS]
    · simp [entsOf, St.get, hjn, hob, updS_self o j t _ hob])
  simp only [rg4, rgA, obA, encs, List.length_nil, hlen] at hms
  have hb0 := b_addS (a := [35]) (b := dg d) (by simp; omega)
  simp only [List.cons_append, List.nil_append] at hb0
  have hw : IntKind.i64.wrap (d + 1) = d + 1 := wr (by omega)
  have hge : ¬ y < 0 := by omega
  have b0 := b_addS (a := [40]) (b := σ x) (by simp; omega)
  have b1 := b_addS (a := [40] ++ σ x) (b := [63]) (by simp; omega)
  have b2 := b_addS (a := [40] ++ σ x ++ [63]) (b := (35 :: dg d)) (by simp; omega)
  have b3 := b_addS (a := [40] ++ σ x ++ [63] ++ (35 :: dg d)) (b := [32]) (by simp; omega)
  have b4 := b_addS (a := [40] ++ σ x ++ [63] ++ (35 :: dg d) ++ [32]) (b := key (up σ y d) (d + 1) p) (by simp; omega)
  have b5 := b_addS (a := [40] ++ σ x ++ [63] ++ (35 :: dg d) ++ [32] ++ key (up σ y d) (d + 1) p) (b := [41]) (by simp; omega)
  simp only [List.append_assoc, List.cons_append, List.nil_append] at b0 b1 b2 b3 b4 b5
  have hkey : key σ d (.mk 2 x y [p]) = [40] ++ σ x ++ [63] ++ (35 :: dg d) ++ [32] ++ key (up σ y d) (d + 1) p ++ [41] := by simp [key, keys]
  simp only [List.append_assoc, List.cons_append, List.nil_append] at hkey
  have hjle : j ≤ o.length := by omega
  refine ⟨.fmap false es, .inr rfl, ?_⟩
  have hjn : ¬ j = o.length := by omega
  obtain ⟨op, ap, bp, lp'⟩ := p
  simp only [enc] at hbn kx r0 hms
  rw [callI_eq]
  simp [body1_eq _ _ (gp 46) g46, c46, a46, enc, encs, hbn, hkey, b0, b1, b2, b3, b4, b5, hlen, kx, r0, hms, hb0, hw, hge, id, iy, hjle, hjn, updS_len, -b_adds]
theorem kN3 (x y : Int) (p : Pi) (hx : 0 ≤ x ∧ x < 30) (hy : 0 ≤ y ∧ y < 30) (sp : shape p = true) (hp : PN p) : PN (.mk 3 x y [p]) := by
  intro d hd hc
  have hs := Sh0
  simp only [cnt, cnts] at hc
  have cp := cnt_pos p
  have lp := key_len σ0 d hs (by omega) p sp (by omega)
  have hbn := kBindsI (.mk 3 x y [p])
  simp only [enc, encs, kbnd] at hbn
  have d0 := dg_len d (by omega)
  have dy := dg_len y (by omega)
  have sx := hs x
  have sy := hs y
  have id := eqItoaS d (by omega) []
  have iy := eqItoaS y (by omega) []
  have r0 := k2_nil p [p] [(3, .box [.i 3, .i x, .i y, .sl false 4 (encs [p])]), (4, .box [(.sc (.map none))]), (5, .box [.i d]), (8, .box [(.sc (.map none))])] x y 3 d 0 (by rfl) (by simp) (by simp [getO]) (by simp [getO]) (by simp [getO]) hd (by omega) hp
  simp only [encs, show ((0 : Nat) : Int) = 0 from rfl] at r0
  have b0 := b_addS (a := [40, 116, 97, 117, 32]) (b := key σ0 d p) (by simp; omega)
  have b1 := b_addS (a := [40, 116, 97, 117, 32] ++ key σ0 d p) (b := [41]) (by simp; omega)
  simp only [List.append_assoc, List.cons_append, List.nil_append] at b0 b1
  have hkey : key σ0 d (.mk 3 x y [p]) = [40, 116, 97, 117, 32] ++ key σ0 d p ++ [41] := by simp [key, keys]
  simp only [List.append_assoc, List.cons_append, List.nil_append] at hkey
  obtain ⟨op, ap, bp, lp'⟩ := p
  simp only [enc] at hbn r0
  rw [callI_eq]
  simp [body1_eq _ _ (gp 46) g46, c46, a46, enc, encs, hbn, hkey, b0, b1, r0, -b_adds]
theorem kM3 (x y : Int) (p : Pi) (hx : 0 ≤ x ∧ x < 30) (hy : 0 ≤ y ∧ y < 30) (sp : shape p = true) (hp : PM p) : PM (.mk 3 x y [p]) := by
  intro σ d o j t es ob hs hd hc hT hn hE hj hob hM
  simp only [cnt, cnts] at hc
  have cp := cnt_pos p
  have lp := key_len σ d hs (by omega) p sp (by omega)
  have hbn := kBindsI (.mk 3 x y [p])
  simp only [enc, encs, kbnd] at hbn
  have d0 := dg_len d (by omega)
  have dy := dg_len y (by omega)
  have sx := hs x
  have sy := hs y
  have id := eqItoaS d (by omega) []
  have iy := eqItoaS y (by omega) []
  obtain ⟨ob0, hM0, r0⟩ := k2_mp p [p] σ o [(3, .box [.i 3, .i x, .i y, .sl false 4 (encs [p])]), (4, .box [(.mp (j, t))]), (5, .box [.i d]), (8, .box [(.mp (j, t))])] x y 3 d 0 j t es ob (by rfl) (by simp) (by simp [getO]) (by simp [getO]) (by simp [getO]) hs hd (by omega) hT hn hE (by simp; omega) (by rw [List.getElem?_append_left (by first | exact hj | (simp only [updS_len]; exact hj))]; exact hob) hM hp
  rw [updS_app _ _ _ _ _ (by exact hj)] at r0
  simp only [encs, show ((0 : Nat) : Int) = 0 from rfl] at r0
  have b0 := b_addS (a := [40, 116, 97, 117, 32]) (b := key σ d p) (by simp; omega)
  have b1 := b_addS (a := [40, 116, 97, 117, 32] ++ key σ d p) (b := [41]) (by simp; omega)
  simp only [List.append_assoc, List.cons_append, List.nil_append] at b0 b1
  have hkey : key σ d (.mk 3 x y [p]) = [40, 116, 97, 117, 32] ++ key σ d p ++ [41] := by simp [key, keys]
  simp only [List.append_assoc, List.cons_append, List.nil_append] at hkey
  have hjle : j ≤ o.length := by omega
  refine ⟨ob0, hM0, ?_⟩
  have hjn : ¬ j = o.length := by omega
  obtain ⟨op, ap, bp, lp'⟩ := p
  simp only [enc] at hbn r0
  rw [callI_eq]
  simp [body1_eq _ _ (gp 46) g46, c46, a46, enc, encs, hbn, hkey, b0, b1, r0, hjle, hjn, updS_len, -b_adds]
theorem kN4 (x y : Int) (p : Pi) (q : Pi) (hx : 0 ≤ x ∧ x < 30) (hy : 0 ≤ y ∧ y < 30) (sp : shape p = true) (hp : PN p) (sq : shape q = true) (hq : PN q) : PN (.mk 4 x y [p, q]) := by
  intro d hd hc
  have hs := Sh0
  simp only [cnt, cnts] at hc
  have cp := cnt_pos p
  have cq := cnt_pos q
  have lp := key_len σ0 d hs (by omega) p sp (by omega)
  have lq := key_len σ0 d hs (by omega) q sq (by omega)
  have hbn := kBindsI (.mk 4 x y [p, q])
  simp only [enc, encs, kbnd] at hbn
  have d0 := dg_len d (by omega)
  have dy := dg_len y (by omega)
  have sx := hs x
  have sy := hs y
  have id := eqItoaS d (by omega) []
  have iy := eqItoaS y (by omega) []
  have r0 := k2_nil p [p, q] [(3, .box [.i 4, .i x, .i y, .sl false 4 (encs [p, q])]), (4, .box [(.sc (.map none))]), (5, .box [.i d]), (8, .box [(.sc (.map none))])] x y 4 d 0 (by rfl) (by simp) (by simp [getO]) (by simp [getO]) (by simp [getO]) hd (by omega) hp
  simp only [encs, show ((0 : Nat) : Int) = 0 from rfl] at r0
  have r1 := k2_nil q [p, q] [(3, .box [.i 4, .i x, .i y, .sl false 4 (encs [p, q])]), (4, .box [(.sc (.map none))]), (5, .box [.i d]), (8, .box [(.sc (.map none))])] x y 4 d 1 (by rfl) (by simp) (by simp [getO]) (by simp [getO]) (by simp [getO]) hd (by omega) hq
  simp only [encs, show ((1 : Nat) : Int) = 1 from rfl] at r1
  have b0 := b_addS (a := [40, 115, 117, 109, 32]) (b := key σ0 d p) (by simp; omega)
  have b1 := b_addS (a := [40, 115, 117, 109, 32] ++ key σ0 d p) (b := [32]) (by simp; omega)
  have b2 := b_addS (a := [40, 115, 117, 109, 32] ++ key σ0 d p ++ [32]) (b := key σ0 d q) (by simp; omega)
  have b3 := b_addS (a := [40, 115, 117, 109, 32] ++ key σ0 d p ++ [32] ++ key σ0 d q) (b := [41]) (by simp; omega)
  simp only [List.append_assoc, List.cons_append, List.nil_append] at b0 b1 b2 b3
  have hkey : key σ0 d (.mk 4 x y [p, q]) = [40, 115, 117, 109, 32] ++ key σ0 d p ++ [32] ++ key σ0 d q ++ [41] := by simp [key, keys]
  simp only [List.append_assoc, List.cons_append, List.nil_append] at hkey
  obtain ⟨op, ap, bp, lp'⟩ := p
  obtain ⟨oq, aq, bq, lq'⟩ := q
  simp only [enc] at hbn r0 r1
  rw [callI_eq]
  simp [body1_eq _ _ (gp 46) g46, c46, a46, enc, encs, hbn, hkey, b0, b1, b2, b3, r0, r1, -b_adds]
theorem kM4 (x y : Int) (p : Pi) (q : Pi) (hx : 0 ≤ x ∧ x < 30) (hy : 0 ≤ y ∧ y < 30) (sp : shape p = true) (hp : PM p) (sq : shape q = true) (hq : PM q) : PM (.mk 4 x y [p, q]) := by
  intro σ d o j t es ob hs hd hc hT hn hE hj hob hM
  simp only [cnt, cnts] at hc
  have cp := cnt_pos p
  have cq := cnt_pos q
  have lp := key_len σ d hs (by omega) p sp (by omega)
  have lq := key_len σ d hs (by omega) q sq (by omega)
  have hbn := kBindsI (.mk 4 x y [p, q])
  simp only [enc, encs, kbnd] at hbn
  have d0 := dg_len d (by omega)
  have dy := dg_len y (by omega)
  have sx := hs x
  have sy := hs y
  have id := eqItoaS d (by omega) []
  have iy := eqItoaS y (by omega) []
  obtain ⟨ob0, hM0, r0⟩ := k2_mp p [p, q] σ o [(3, .box [.i 4, .i x, .i y, .sl false 4 (encs [p, q])]), (4, .box [(.mp (j, t))]), (5, .box [.i d]), (8, .box [(.mp (j, t))])] x y 4 d 0 j t es ob (by rfl) (by simp) (by simp [getO]) (by simp [getO]) (by simp [getO]) hs hd (by omega) hT hn hE (by simp; omega) (by rw [List.getElem?_append_left (by first | exact hj | (simp only [updS_len]; exact hj))]; exact hob) hM hp
  rw [updS_app _ _ _ _ _ (by exact hj)] at r0
  simp only [encs, show ((0 : Nat) : Int) = 0 from rfl] at r0
  obtain ⟨ob1, hM1, r1⟩ := k2_mp q [p, q] σ (updS o j t ob0) [(3, .box [.i 4, .i x, .i y, .sl false 4 (encs [p, q])]), (4, .box [(.mp (j, t))]), (5, .box [.i d]), (8, .box [(.mp (j, t))])] x y 4 d 1 j t es ob0 (by rfl) (by simp) (by simp [getO]) (by simp [getO]) (by simp [getO]) hs hd (by omega) hT hn hE (by simp [updS_len]; omega) (by rw [List.getElem?_append_left (by first | exact hj | (simp only [updS_len]; exact hj))]; exact (updS_get o j t _ hj)) hM0 hq
  rw [updS_app _ _ _ _ _ (by simp only [updS_len]; exact hj)] at r1
  simp only [updS_len, updS_updS] at r1
  simp only [encs, show ((1 : Nat) : Int) = 1 from rfl] at r1
  have b0 := b_addS (a := [40, 115, 117, 109, 32]) (b := key σ d p) (by simp; omega)
  have b1 := b_addS (a := [40, 115, 117, 109, 32] ++ key σ d p) (b := [32]) (by simp; omega)
  have b2 := b_addS (a := [40, 115, 117, 109, 32] ++ key σ d p ++ [32]) (b := key σ d q) (by simp; omega)
  have b3 := b_addS (a := [40, 115, 117, 109, 32] ++ key σ d p ++ [32] ++ key σ d q) (b := [41]) (by simp; omega)
  simp only [List.append_assoc, List.cons_append, List.nil_append] at b0 b1 b2 b3
  have hkey : key σ d (.mk 4 x y [p, q]) = [40, 115, 117, 109, 32] ++ key σ d p ++ [32] ++ key σ d q ++ [41] := by simp [key, keys]
  simp only [List.append_assoc, List.cons_append, List.nil_append] at hkey
  have hjle : j ≤ o.length := by omega
  refine ⟨ob1, hM1, ?_⟩
  have hjn : ¬ j = o.length := by omega
  obtain ⟨op, ap, bp, lp'⟩ := p
  obtain ⟨oq, aq, bq, lq'⟩ := q
  simp only [enc] at hbn r0 r1
  rw [callI_eq]
  simp [body1_eq _ _ (gp 46) g46, c46, a46, enc, encs, hbn, hkey, b0, b1, b2, b3, r0, r1, hjle, hjn, updS_len, -b_adds]
theorem kN5 (x y : Int) (p : Pi) (q : Pi) (hx : 0 ≤ x ∧ x < 30) (hy : 0 ≤ y ∧ y < 30) (sp : shape p = true) (hp : PN p) (sq : shape q = true) (hq : PN q) : PN (.mk 5 x y [p, q]) := by
  intro d hd hc
  have hs := Sh0
  simp only [cnt, cnts] at hc
  have cp := cnt_pos p
  have cq := cnt_pos q
  have lp := key_len σ0 d hs (by omega) p sp (by omega)
  have lq := key_len σ0 d hs (by omega) q sq (by omega)
  have hbn := kBindsI (.mk 5 x y [p, q])
  simp only [enc, encs, kbnd] at hbn
  have d0 := dg_len d (by omega)
  have dy := dg_len y (by omega)
  have sx := hs x
  have sy := hs y
  have id := eqItoaS d (by omega) []
  have iy := eqItoaS y (by omega) []
  have r0 := k2_nil p [p, q] [(3, .box [.i 5, .i x, .i y, .sl false 4 (encs [p, q])]), (4, .box [(.sc (.map none))]), (5, .box [.i d]), (8, .box [(.sc (.map none))])] x y 5 d 0 (by rfl) (by simp) (by simp [getO]) (by simp [getO]) (by simp [getO]) hd (by omega) hp
  simp only [encs, show ((0 : Nat) : Int) = 0 from rfl] at r0
  have r1 := k2_nil q [p, q] [(3, .box [.i 5, .i x, .i y, .sl false 4 (encs [p, q])]), (4, .box [(.sc (.map none))]), (5, .box [.i d]), (8, .box [(.sc (.map none))])] x y 5 d 1 (by rfl) (by simp) (by simp [getO]) (by simp [getO]) (by simp [getO]) hd (by omega) hq
  simp only [encs, show ((1 : Nat) : Int) = 1 from rfl] at r1
  have b0 := b_addS (a := [40, 112, 97, 114, 32]) (b := key σ0 d p) (by simp; omega)
  have b1 := b_addS (a := [40, 112, 97, 114, 32] ++ key σ0 d p) (b := [32]) (by simp; omega)
  have b2 := b_addS (a := [40, 112, 97, 114, 32] ++ key σ0 d p ++ [32]) (b := key σ0 d q) (by simp; omega)
  have b3 := b_addS (a := [40, 112, 97, 114, 32] ++ key σ0 d p ++ [32] ++ key σ0 d q) (b := [41]) (by simp; omega)
  simp only [List.append_assoc, List.cons_append, List.nil_append] at b0 b1 b2 b3
  have hkey : key σ0 d (.mk 5 x y [p, q]) = [40, 112, 97, 114, 32] ++ key σ0 d p ++ [32] ++ key σ0 d q ++ [41] := by simp [key, keys]
  simp only [List.append_assoc, List.cons_append, List.nil_append] at hkey
  obtain ⟨op, ap, bp, lp'⟩ := p
  obtain ⟨oq, aq, bq, lq'⟩ := q
  simp only [enc] at hbn r0 r1
  rw [callI_eq]
  simp [body1_eq _ _ (gp 46) g46, c46, a46, enc, encs, hbn, hkey, b0, b1, b2, b3, r0, r1, -b_adds]
theorem kM5 (x y : Int) (p : Pi) (q : Pi) (hx : 0 ≤ x ∧ x < 30) (hy : 0 ≤ y ∧ y < 30) (sp : shape p = true) (hp : PM p) (sq : shape q = true) (hq : PM q) : PM (.mk 5 x y [p, q]) := by
  intro σ d o j t es ob hs hd hc hT hn hE hj hob hM
  simp only [cnt, cnts] at hc
  have cp := cnt_pos p
  have cq := cnt_pos q
  have lp := key_len σ d hs (by omega) p sp (by omega)
  have lq := key_len σ d hs (by omega) q sq (by omega)
  have hbn := kBindsI (.mk 5 x y [p, q])
  simp only [enc, encs, kbnd] at hbn
  have d0 := dg_len d (by omega)
  have dy := dg_len y (by omega)
  have sx := hs x
  have sy := hs y
  have id := eqItoaS d (by omega) []
  have iy := eqItoaS y (by omega) []
  obtain ⟨ob0, hM0, r0⟩ := k2_mp p [p, q] σ o [(3, .box [.i 5, .i x, .i y, .sl false 4 (encs [p, q])]), (4, .box [(.mp (j, t))]), (5, .box [.i d]), (8, .box [(.mp (j, t))])] x y 5 d 0 j t es ob (by rfl) (by simp) (by simp [getO]) (by simp [getO]) (by simp [getO]) hs hd (by omega) hT hn hE (by simp; omega) (by rw [List.getElem?_append_left (by first | exact hj | (simp only [updS_len]; exact hj))]; exact hob) hM hp
  rw [updS_app _ _ _ _ _ (by exact hj)] at r0
  simp only [encs, show ((0 : Nat) : Int) = 0 from rfl] at r0
  obtain ⟨ob1, hM1, r1⟩ := k2_mp q [p, q] σ (updS o j t ob0) [(3, .box [.i 5, .i x, .i y, .sl false 4 (encs [p, q])]), (4, .box [(.mp (j, t))]), (5, .box [.i d]), (8, .box [(.mp (j, t))])] x y 5 d 1 j t es ob0 (by rfl) (by simp) (by simp [getO]) (by simp [getO]) (by simp [getO]) hs hd (by omega) hT hn hE (by simp [updS_len]; omega) (by rw [List.getElem?_append_left (by first | exact hj | (simp only [updS_len]; exact hj))]; exact (updS_get o j t _ hj)) hM0 hq
  rw [updS_app _ _ _ _ _ (by simp only [updS_len]; exact hj)] at r1
  simp only [updS_len, updS_updS] at r1
  simp only [encs, show ((1 : Nat) : Int) = 1 from rfl] at r1
  have b0 := b_addS (a := [40, 112, 97, 114, 32]) (b := key σ d p) (by simp; omega)
  have b1 := b_addS (a := [40, 112, 97, 114, 32] ++ key σ d p) (b := [32]) (by simp; omega)
  have b2 := b_addS (a := [40, 112, 97, 114, 32] ++ key σ d p ++ [32]) (b := key σ d q) (by simp; omega)
  have b3 := b_addS (a := [40, 112, 97, 114, 32] ++ key σ d p ++ [32] ++ key σ d q) (b := [41]) (by simp; omega)
  simp only [List.append_assoc, List.cons_append, List.nil_append] at b0 b1 b2 b3
  have hkey : key σ d (.mk 5 x y [p, q]) = [40, 112, 97, 114, 32] ++ key σ d p ++ [32] ++ key σ d q ++ [41] := by simp [key, keys]
  simp only [List.append_assoc, List.cons_append, List.nil_append] at hkey
  have hjle : j ≤ o.length := by omega
  refine ⟨ob1, hM1, ?_⟩
  have hjn : ¬ j = o.length := by omega
  obtain ⟨op, ap, bp, lp'⟩ := p
  obtain ⟨oq, aq, bq, lq'⟩ := q
  simp only [enc] at hbn r0 r1
  rw [callI_eq]
  simp [body1_eq _ _ (gp 46) g46, c46, a46, enc, encs, hbn, hkey, b0, b1, b2, b3, r0, r1, hjle, hjn, updS_len, -b_adds]
theorem kN6 (x y : Int) (p : Pi) (hx : 0 ≤ x ∧ x < 30) (hy : 0 ≤ y ∧ y < 30) (sp : shape p = true) (hp : PM p) : PN (.mk 6 x y [p]) := by
  intro d hd hc
  have hs := Sh0
  simp only [cnt, cnts] at hc
  have cp := cnt_pos p
  have lp := key_len (up σ0 x d) (d + 1) (hs.up x d (by omega)) (by omega) p sp (by omega)
  have hbn := kBindsI (.mk 6 x y [p])
  simp only [enc, encs, kbnd] at hbn
  have d0 := dg_len d (by omega)
  have dy := dg_len y (by omega)
  have sx := hs x
  have sy := hs y
  have id := eqItoaS d (by omega) []
  have iy := eqItoaS y (by omega) []
  obtain ⟨ob0, hM0, r0⟩ := k2_mp p [p] (up σ0 x d) ([] : Stack) [(3, .box [.i 6, .i x, .i y, .sl false 4 (encs [p])]), (4, .box [(.sc (.map none))]), (5, .box [.i (d + 1)]), (8, .box [.mp (0, 23)]), (23, .map false (ins (.i x) (.s (S (35 :: dg d))) []))] x y 6 (d + 1) 0 0 23 (ins (.i x) (.s (S (35 :: dg d))) []) (.map false (ins (.i x) (.s (S (35 :: dg d))) [])) (by rfl) (by simp) (by simp [getO]) (by simp [getO]) (by simp [getO]) (hs.up x d (by omega)) (by omega) (by omega) (Tol0.up x d) (ins_nodup (by simp)) (ins_okE _ _ _ (by intro q hq; cases hq)) (by simp) (by rw [show 0 = ([] : Stack).length from rfl]; simp [getO]) (.inl rfl) hp
  have e0 := updS_last [] [(3, .box [.i 6, .i x, .i y, .sl false 4 (encs [p])]), (4, .box [(.sc (.map none))]), (5, .box [.i (d + 1)]), (8, .box [.mp (0, 23)]), (23, .map false (ins (.i x) (.s (S (35 :: dg d))) []))] 23 ob0
  simp only [List.length_nil] at e0 r0
  rw [e0] at r0
  simp only [setO, List.nil_append] at r0
  simp only [encs, show ((0 : Nat) : Int) = 0 from rfl] at r0
  have hrange : ∀ s1 : St, s1.ev (.t 24) = (.sc (.map none)) → (entsOf s1 (.sc (.map none)) = some ([], ⟨rg4 ([] : Stack).length (.sc (.map none)) (S (35 :: dg d)) x, obA ([] : Stack).length [.i 6, .i x, .i y, .sl false 4 (encs [p])] [(.sc (.map none))] [.i d] [], []⟩)) → _ := fun s1 e1 e2 =>
    mstart_ok s1 [] 6 x y d (encs [p]) (.sc (.map none)) (S (35 :: dg d)) x (by intro g; rfl) [] (by simp) (by intro q hq; cases hq) e1 e2
  have hms := hrange ⟨rg4 0 (.sc (.map none)) (S (35 :: dg d)) x, obA 0 [.i 6, .i x, .i y, .sl false 4 (encs [p])] [(.sc (.map none))] [.i d] [], []⟩ rfl (by
    rfl)
  simp only [rg4, rgA, obA, encs, List.length_nil] at hms
  have hb0 := b_addS (a := [35]) (b := dg d) (by simp; omega)
  simp only [List.cons_append, List.nil_append] at hb0
  have hw : IntKind.i64.wrap (d + 1) = d + 1 := wr (by omega)
  have hge : ¬ x < 0 := by omega
  have b0 := b_addS (a := [40, 110, 101, 119, 32]) (b := (35 :: dg d)) (by simp; omega)
  have b1 := b_addS (a := [40, 110, 101, 119, 32] ++ (35 :: dg d)) (b := [32]) (by simp; omega)
  have b2 := b_addS (a := [40, 110, 101, 119, 32] ++ (35 :: dg d) ++ [32]) (b := dg y) (by simp; omega)
  have b3 := b_addS (a := [40, 110, 101, 119, 32] ++ (35 :: dg d) ++ [32] ++ dg y) (b := [32]) (by simp; omega)
  have b4 := b_addS (a := [40, 110, 101, 119, 32] ++ (35 :: dg d) ++ [32] ++ dg y ++ [32]) (b := key (up σ0 x d) (d + 1) p) (by simp; omega)
  have b5 := b_addS (a := [40, 110, 101, 119, 32] ++ (35 :: dg d) ++ [32] ++ dg y ++ [32] ++ key (up σ0 x d) (d + 1) p) (b := [41]) (by simp; omega)
  simp only [List.append_assoc, List.cons_append, List.nil_append] at b0 b1 b2 b3 b4 b5
  have hkey : key σ0 d (.mk 6 x y [p]) = [40, 110, 101, 119, 32] ++ (35 :: dg d) ++ [32] ++ dg y ++ [32] ++ key (up σ0 x d) (d + 1) p ++ [41] := by simp [key, keys]
  simp only [List.append_assoc, List.cons_append, List.nil_append] at hkey
  obtain ⟨op, ap, bp, lp'⟩ := p
  simp only [enc] at hbn r0 hms
  rw [callI_eq]
  simp [body1_eq _ _ (gp 46) g46, c46, a46, enc, encs, hbn, hkey, b0, b1, b2, b3, b4, b5, r0, hms, hb0, hw, hge, id, iy, -b_adds]
theorem kM6 (x y : Int) (p : Pi) (hx : 0 ≤ x ∧ x < 30) (hy : 0 ≤ y ∧ y < 30) (sp : shape p = true) (hp : PM p) : PM (.mk 6 x y [p]) := by
  intro σ d o j t es ob hs hd hc hT hn hE hj hob hM
  simp only [cnt, cnts] at hc
  have cp := cnt_pos p
  have lp := key_len (up σ x d) (d + 1) (hs.up x d (by omega)) (by omega) p sp (by omega)
  have hbn := kBindsI (.mk 6 x y [p])
  simp only [enc, encs, kbnd] at hbn
  have d0 := dg_len d (by omega)
  have dy := dg_len y (by omega)
  have sx := hs x
  have sy := hs y
  have id := eqItoaS d (by omega) []
  have iy := eqItoaS y (by omega) []
  let o1 := updS o j t (.fmap false es)
  have hlen : (updS o j t (.fmap false es)).length = o.length := updS_len _ _ _ _
  obtain ⟨ob0, hM0, r0⟩ := k2_mp p [p] (up σ x d) (updS o j t (.fmap false es)) [(3, .box [.i 6, .i x, .i y, .sl false 4 (encs [p])]), (4, .box [(.mp (j, t))]), (5, .box [.i (d + 1)]), (8, .box [.mp (o.length, 23)]), (23, .map false (ins (.i x) (.s (S (35 :: dg d))) es))] x y 6 (d + 1) 0 o.length 23 (ins (.i x) (.s (S (35 :: dg d))) es) (.map false (ins (.i x) (.s (S (35 :: dg d))) es)) (by rfl) (by simp) (by simp [getO]) (by simp [getO]) (by simp [getO]) (hs.up x d (by omega)) (by omega) (by omega) (hT.up x d) (ins_nodup hn) (ins_okE _ _ _ hE) (by simp [hlen]) (by rw [show o.length = (updS o j t (.fmap false es)).length from hlen.symm]; simp [getO]) (.inl rfl) hp
  have e0 := updS_last (updS o j t (.fmap false es)) [(3, .box [.i 6, .i x, .i y, .sl false 4 (encs [p])]), (4, .box [(.mp (j, t))]), (5, .box [.i (d + 1)]), (8, .box [.mp (o.length, 23)]), (23, .map false (ins (.i x) (.s (S (35 :: dg d))) es))] 23 ob0
  rw [hlen] at e0 r0
  rw [e0] at r0
  simp only [setO, List.nil_append] at r0
  simp only [encs, show ((0 : Nat) : Int) = 0 from rfl] at r0
  have hrange : ∀ s1 : St, s1.ev (.t 24) = (.mp (j, t)) → (entsOf s1 (.mp (j, t)) = some (es, ⟨rg4 o.length (.mp (j, t)) (S (35 :: dg d)) x, obA o.length [.i 6, .i x, .i y, .sl false 4 (encs [p])] [(.mp (j, t))] [.i d] [], updS o j t (.fmap false es)⟩)) → _ := fun s1 e1 e2 =>
    mstart_ok s1 (updS o j t (.fmap false es)) 6 x y d (encs [p]) (.mp (j, t)) (S (35 :: dg d)) x (by intro g; rw [hlen]; simp [known]; omega) es hn hE e1 (by rw [hlen]; exact e2)
  have hms := hrange ⟨rg4 o.length (.mp (j, t)) (S (35 :: dg d)) x, obA o.length [.i 6, .i x, .i y, .sl false 4 (encs [p])] [(.mp (j, t))] [.i d] [], o⟩ rfl (by
    have hjn : ¬ j = o.length := by omega
    rcases hM with rfl | rfl
    · simp [entsOf, St.get, St.set, hjn, hob, updS]
    · simp [entsOf, St.get, hjn, hob, updS_self o j t _ hob])
  simp only [rg4, rgA, obA, encs, List.length_nil, hlen] at hms
  have hb0 := b_addS (a := [35]) (b := dg d) (by simp; omega)
  simp only [List.cons_append, List.nil_append] at hb0
  have hw : IntKind.i64.wrap (d + 1) = d + 1 := wr (by omega)
  have hge : ¬ x < 0 := by omega
  have b0 := b_addS (a := [40, 110, 101, 119, 32]) (b := (35 :: dg d)) (by simp; omega)
  have b1 := b_addS (a := [40, 110, 101, 119, 32] ++ (35 :: dg d)) (b := [32]) (by simp; omega)
  have b2 := b_addS (a := [40, 110, 101, 119, 32] ++ (35 :: dg d) ++ [32]) (b := dg y) (by simp; omega)
  have b3 := b_addS (a := [40, 110, 101, 119, 32] ++ (35 :: dg d) ++ [32] ++ dg y) (b := [32]) (by simp; omega)
  have b4 := b_addS (a := [40, 110, 101, 119, 32] ++ (35 :: dg d) ++ [32] ++ dg y ++ [32]) (b := key (up σ x d) (d + 1) p) (by simp; omega)
  have b5 := b_addS (a := [40, 110, 101, 119, 32] ++ (35 :: dg d) ++ [32] ++ dg y ++ [32] ++ key (up σ x d) (d + 1) p) (b := [41]) (by simp; omega)
  simp only [List.append_assoc, List.cons_append, List.nil_append] at b0 b1 b2 b3 b4 b5
  have hkey : key σ d (.mk 6 x y [p]) = [40, 110, 101, 119, 32] ++ (35 :: dg d) ++ [32] ++ dg y ++ [32] ++ key (up σ x d) (d + 1) p ++ [41] := by simp [key, keys]
  simp only [List.append_assoc, List.cons_append, List.nil_append] at hkey
  have hjle : j ≤ o.length := by omega
  refine ⟨.fmap false es, .inr rfl, ?_⟩
  have hjn : ¬ j = o.length := by omega
  obtain ⟨op, ap, bp, lp'⟩ := p
  simp only [enc] at hbn r0 hms
  rw [callI_eq]
  simp [body1_eq _ _ (gp 46) g46, c46, a46, enc, encs, hbn, hkey, b0, b1, b2, b3, b4, b5, hlen, r0, hms, hb0, hw, hge, id, iy, hjle, hjn, updS_len, -b_adds]
theorem kN7 (x y : Int) (p : Pi) (hx : 0 ≤ x ∧ x < 30) (hy : 0 ≤ y ∧ y < 30) (sp : shape p = true) (hp : PN p) : PN (.mk 7 x y [p]) := by
  intro d hd hc
  have hs := Sh0
  simp only [cnt, cnts] at hc
  have cp := cnt_pos p
  have lp := key_len σ0 d hs (by omega) p sp (by omega)
  have hbn := kBindsI (.mk 7 x y [p])
  simp only [enc, encs, kbnd] at hbn
  have d0 := dg_len d (by omega)
  have dy := dg_len y (by omega)
  have sx := hs x
  have sy := hs y
  have id := eqItoaS d (by omega) []
  have iy := eqItoaS y (by omega) []
  have kx := k1_nil [(3, .box [.i 7, .i x, .i y, .sl false 4 (encs [p])]), (4, .box [(.sc (.map none))]), (5, .box [.i d]), (8, .box [(.sc (.map none))])] x hx (by simp [getO])
  simp only [encs, List.nil_append] at kx
  have ky := k1_nil [(3, .box [.i 7, .i x, .i y, .sl false 4 (encs [p])]), (4, .box [(.sc (.map none))]), (5, .box [.i d]), (8, .box [(.sc (.map none))])] y hy (by simp [getO])
  simp only [encs, List.nil_append] at ky
  have r0 := k2_nil p [p] [(3, .box [.i 7, .i x, .i y, .sl false 4 (encs [p])]), (4, .box [(.sc (.map none))]), (5, .box [.i d]), (8, .box [(.sc (.map none))])] x y 7 d 0 (by rfl) (by simp) (by simp [getO]) (by simp [getO]) (by simp [getO]) hd (by omega) hp
  simp only [encs, show ((0 : Nat) : Int) = 0 from rfl] at r0
  have b0 := b_addS (a := [40]) (b := σ0 x) (by simp; omega)
  have b1 := b_addS (a := [40] ++ σ0 x) (b := [61]) (by simp; omega)
  have b2 := b_addS (a := [40] ++ σ0 x ++ [61]) (b := σ0 y) (by simp; omega)
  have b3 := b_addS (a := [40] ++ σ0 x ++ [61] ++ σ0 y) (b := [32]) (by simp; omega)
  have b4 := b_addS (a := [40] ++ σ0 x ++ [61] ++ σ0 y ++ [32]) (b := key σ0 d p) (by simp; omega)
  have b5 := b_addS (a := [40] ++ σ0 x ++ [61] ++ σ0 y ++ [32] ++ key σ0 d p) (b := [41]) (by simp; omega)
  simp only [List.append_assoc, List.cons_append, List.nil_append] at b0 b1 b2 b3 b4 b5
  have hkey : key σ0 d (.mk 7 x y [p]) = [40] ++ σ0 x ++ [61] ++ σ0 y ++ [32] ++ key σ0 d p ++ [41] := by simp [key, keys]
  simp only [List.append_assoc, List.cons_append, List.nil_append] at hkey
  obtain ⟨op, ap, bp, lp'⟩ := p
  simp only [enc] at hbn kx ky r0
  rw [callI_eq]
  simp [body1_eq _ _ (gp 46) g46, c46, a46, enc, encs, hbn, hkey, b0, b1, b2, b3, b4, b5, kx, ky, r0, -b_adds]
theorem kM7 (x y : Int) (p : Pi) (hx : 0 ≤ x ∧ x < 30) (hy : 0 ≤ y ∧ y < 30) (sp : shape p = true) (hp : PM p) : PM (.mk 7 x y [p]) := by
  intro σ d o j t es ob hs hd hc hT hn hE hj hob hM
  simp only [cnt, cnts] at hc
  have cp := cnt_pos p
  have lp := key_len σ d hs (by omega) p sp (by omega)
  have hbn := kBindsI (.mk 7 x y [p])
  simp only [enc, encs, kbnd] at hbn
  have d0 := dg_len d (by omega)
  have dy := dg_len y (by omega)
  have sx := hs x
  have sy := hs y
  have id := eqItoaS d (by omega) []
  have iy := eqItoaS y (by omega) []
  have kx := k1_mp σ o [(3, .box [.i 7, .i x, .i y, .sl false 4 (encs [p])]), (4, .box [(.mp (j, t))]), (5, .box [.i d]), (8, .box [(.mp (j, t))])] j t es ob hT x hx (by simp [getO]) hj hob hM
  simp only [encs, List.nil_append] at kx
  have ky := k1_mp σ o [(3, .box [.i 7, .i x, .i y, .sl false 4 (encs [p])]), (4, .box [(.mp (j, t))]), (5, .box [.i d]), (8, .box [(.mp (j, t))])] j t es ob hT y hy (by simp [getO]) hj hob hM
  simp only [encs, List.nil_append] at ky
  obtain ⟨ob0, hM0, r0⟩ := k2_mp p [p] σ o [(3, .box [.i 7, .i x, .i y, .sl false 4 (encs [p])]), (4, .box [(.mp (j, t))]), (5, .box [.i d]), (8, .box [(.mp (j, t))])] x y 7 d 0 j t es ob (by rfl) (by simp) (by simp [getO]) (by simp [getO]) (by simp [getO]) hs hd (by omega) hT hn hE (by simp; omega) (by rw [List.getElem?_append_left (by first | exact hj | (simp only [updS_len]; exact hj))]; exact hob) hM hp
  rw [updS_app _ _ _ _ _ (by exact hj)] at r0
  simp only [encs, show ((0 : Nat) : Int) = 0 from rfl] at r0
  have b0 := b_addS (a := [40]) (b := σ x) (by simp; omega)
  have b1 := b_addS (a := [40] ++ σ x) (b := [61]) (by simp; omega)
  have b2 := b_addS (a := [40] ++ σ x ++ [61]) (b := σ y) (by simp; omega)
  have b3 := b_addS (a := [40] ++ σ x ++ [61] ++ σ y) (b := [32]) (by simp; omega)
  have b4 := b_addS (a := [40] ++ σ x ++ [61] ++ σ y ++ [32]) (b := key σ d p) (by simp; omega)
  have b5 := b_addS (a := [40] ++ σ x ++ [61] ++ σ y ++ [32] ++ key σ d p) (b := [41]) (by simp; omega)
  simp only [List.append_assoc, List.cons_append, List.nil_append] at b0 b1 b2 b3 b4 b5
  have hkey : key σ d (.mk 7 x y [p]) = [40] ++ σ x ++ [61] ++ σ y ++ [32] ++ key σ d p ++ [41] := by simp [key, keys]
  simp only [List.append_assoc, List.cons_append, List.nil_append] at hkey
  have hjle : j ≤ o.length := by omega
  refine ⟨ob0, hM0, ?_⟩
  have hjn : ¬ j = o.length := by omega
  obtain ⟨op, ap, bp, lp'⟩ := p
  simp only [enc] at hbn kx ky r0
  rw [callI_eq]
  simp [body1_eq _ _ (gp 46) g46, c46, a46, enc, encs, hbn, hkey, b0, b1, b2, b3, b4, b5, kx, ky, r0, hjle, hjn, updS_len, -b_adds]
end Go.Am
end
section
set_option maxRecDepth 10000
set_option maxHeartbeats 1000000
set_option linter.unusedSimpArgs false
set_option linter.unusedVariables false
namespace Go.Am
open Go.Proofs
theorem shape_len {o x y : Int} {ps : List Pi} (h : shape (.mk o x y ps) = true) : (o = 0 → ps.length = 0) ∧ (o = 1 ∨ o = 2 ∨ o = 3 ∨ o = 6 ∨ o = 7 → ps.length = 1) ∧ (o = 4 ∨ o = 5 → ps.length = 2) := by
  unfold shape kindOK at h
  refine ⟨fun e => ?_, fun e => ?_, fun e => ?_⟩
  · subst e; simp at h; rw [h.2.1]; rfl
  · rcases e with rfl | rfl | rfl | rfl | rfl <;> simp at h <;> omega
  · rcases e with rfl | rfl <;> simp at h <;> omega
theorem len0 {ps : List Pi} (h : ps.length = 0) : ps = [] := List.length_eq_zero_iff.1 h
theorem len1 {ps : List Pi} (h : ps.length = 1) : ∃ p, ps = [p] := List.length_eq_one_iff.1 h
theorem len2 {ps : List Pi} (h : ps.length = 2) : ∃ p q, ps = [p, q] := by
  match ps, h with
  | [p, q], _ => exact ⟨p, q, rfl⟩
mutual
theorem eqKeyM : ∀ (p : Pi), shape p = true → PM p
  | .mk o x y ps, h => by
    obtain ⟨hx, hy, hss, ho⟩ := shape_parts h
    obtain ⟨n0, n1, n2⟩ := shape_len h
    have ih := eqKeysM ps hss
    rcases ho with rfl | rfl | rfl | rfl | rfl | rfl | rfl | rfl
    · obtain rfl := len0 (n0 rfl); exact kM0 x y hx hy
    · obtain ⟨p, rfl⟩ := len1 (n1 (by omega)); simp only [shapes, Bool.and_true] at hss; exact kM1 x y p hx hy hss (ih p (by simp))
    · obtain ⟨p, rfl⟩ := len1 (n1 (by omega)); simp only [shapes, Bool.and_true] at hss; exact kM2 x y p hx hy hss (ih p (by simp))
    · obtain ⟨p, rfl⟩ := len1 (n1 (by omega)); simp only [shapes, Bool.and_true] at hss; exact kM3 x y p hx hy hss (ih p (by simp))
    · obtain ⟨p, q, rfl⟩ := len2 (n2 (by omega)); simp only [shapes, Bool.and_true, Bool.and_eq_true] at hss; exact kM4 x y p q hx hy hss.1 (ih p (by simp)) hss.2 (ih q (by simp))
    · obtain ⟨p, q, rfl⟩ := len2 (n2 (by omega)); simp only [shapes, Bool.and_true, Bool.and_eq_true] at hss; exact kM5 x y p q hx hy hss.1 (ih p (by simp)) hss.2 (ih q (by simp))
    · obtain ⟨p, rfl⟩ := len1 (n1 (by omega)); simp only [shapes, Bool.and_true] at hss; exact kM6 x y p hx hy hss (ih p (by simp))
    · obtain ⟨p, rfl⟩ := len1 (n1 (by omega)); simp only [shapes, Bool.and_true] at hss; exact kM7 x y p hx hy hss (ih p (by simp))
theorem eqKeysM : ∀ (ps : List Pi), shapes ps = true → ∀ p ∈ ps, PM p
  | [], _, p, h => by cases h
  | q :: ps, hss, p, h => by
    simp only [shapes, Bool.and_eq_true] at hss
    rcases List.mem_cons.1 h with h | h
    · rw [h]; exact eqKeyM q hss.1
    · exact eqKeysM ps hss.2 p h
end
mutual
theorem eqKeyN : ∀ (p : Pi), shape p = true → PN p
  | .mk o x y ps, h => by
    obtain ⟨hx, hy, hss, ho⟩ := shape_parts h
    obtain ⟨n0, n1, n2⟩ := shape_len h
    have ih := eqKeysN ps hss
    have im := eqKeysM ps hss
    rcases ho with rfl | rfl | rfl | rfl | rfl | rfl | rfl | rfl
    · obtain rfl := len0 (n0 rfl); exact kN0 x y hx hy
    · obtain ⟨p, rfl⟩ := len1 (n1 (by omega)); simp only [shapes, Bool.and_true] at hss; exact kN1 x y p hx hy hss (ih p (by simp))
    · obtain ⟨p, rfl⟩ := len1 (n1 (by omega)); simp only [shapes, Bool.and_true] at hss; exact kN2 x y p hx hy hss (im p (by simp))
    · obtain ⟨p, rfl⟩ := len1 (n1 (by omega)); simp only [shapes, Bool.and_true] at hss; exact kN3 x y p hx hy hss (ih p (by simp))
    · obtain ⟨p, q, rfl⟩ := len2 (n2 (by omega)); simp only [shapes, Bool.and_true, Bool.and_eq_true] at hss; exact kN4 x y p q hx hy hss.1 (ih p (by simp)) hss.2 (ih q (by simp))
    · obtain ⟨p, q, rfl⟩ := len2 (n2 (by omega)); simp only [shapes, Bool.and_true, Bool.and_eq_true] at hss; exact kN5 x y p q hx hy hss.1 (ih p (by simp)) hss.2 (ih q (by simp))
    · obtain ⟨p, rfl⟩ := len1 (n1 (by omega)); simp only [shapes, Bool.and_true] at hss; exact kN6 x y p hx hy hss (im p (by simp))
    · obtain ⟨p, rfl⟩ := len1 (n1 (by omega)); simp only [shapes, Bool.and_true] at hss; exact kN7 x y p hx hy hss (ih p (by simp))
theorem eqKeysN : ∀ (ps : List Pi), shapes ps = true → ∀ p ∈ ps, PN p
  | [], _, p, h => by cases h
  | q :: ps, hss, p, h => by
    simp only [shapes, Bool.and_eq_true] at hss
    rcases List.mem_cons.1 h with h | h
    · rw [h]; exact eqKeyN q hss.1
    · exact eqKeysN ps hss.2 p h
end
theorem kok_cnt {p : Pi} (hk : (decide (pn p 14 ≤ 14) && shape p) = true) : cnt p ≤ 14 ∧ shape p = true := by
  simp only [Bool.and_eq_true, decide_eq_true_eq] at hk
  refine ⟨?_, hk.2⟩
  have := pn_cnt p 14 (by omega)
  by_cases hc : cnt p ≤ 14
  · exact hc
  · have := this.2 (by omega); omega
theorem eqKeyOf (p : Pi) (hk : (decide (pn p 14 ≤ 14) && shape p) = true) : callI G 30 [enc p] [] = some (.s (S (pkey p)), []) := by
  obtain ⟨hc, hs⟩ := kok_cnt hk
  have h := eqKeyN p hs 0 (by omega) (by omega)
  rw [callI_eq]
  unfold pkey
  obtain ⟨o, x, y, ps⟩ := p
  simp only [enc] at h
  simp [body1_eq _ _ (gp 30) g30, c30, a30, enc, h, hk]
end Go.Am
end
section
set_option maxRecDepth 10000
set_option maxHeartbeats 1000000
set_option linter.unusedSimpArgs false
set_option linter.unusedVariables false
namespace Go.Am
open Go.Proofs
def okB (p : Pi) : Bool := decide (pn p 14 ≤ 14) && shape p
def alpha (p q : Pi) : Bool := (okB p && okB q) && ((S (pkey p)).toList == (S (pkey q)).toList)
theorem eqAlphaI (p q : Pi) (hp : Fit p) (hq : Fit q) : callI G 15 [enc p, enc q] [] = some (.b (alpha p q), []) := by
  have a1 := eq12 p hp
  have a2 := eq12 q hq
  change callI G 17 [enc p] [] = some (.b (okB p), []) at a1
  change callI G 17 [enc q] [] = some (.b (okB q), []) at a2
  rw [callI_eq]
  unfold alpha
  by_cases h1 : okB p = true
  · have k1 := eqKeyOf p h1
    by_cases h2 : okB q = true
    · have k2 := eqKeyOf q h2
      obtain ⟨o, x, y, ps⟩ := p
      obtain ⟨o', x', y', ps'⟩ := q
      simp only [enc] at a1 a2 k1 k2
      simp [body1_eq _ _ (gp 15) g15, c15, a15, enc, a1, a2, k1, k2, h1, h2]
    · have h2 : okB q = false := by simpa using h2
      obtain ⟨o, x, y, ps⟩ := p
      obtain ⟨o', x', y', ps'⟩ := q
      simp only [enc] at a1 a2
      simp [body1_eq _ _ (gp 15) g15, c15, a15, enc, a1, a2, h1, h2]
  · have h1 : okB p = false := by simpa using h1
    obtain ⟨o, x, y, ps⟩ := p
    obtain ⟨o', x', y', ps'⟩ := q
    simp only [enc] at a1 a2
    simp [body1_eq _ _ (gp 15) g15, c15, a15, enc, a1, a2, h1]
end Go.Am
end
section
set_option maxRecDepth 10000
set_option maxHeartbeats 4000000
set_option linter.unusedSimpArgs false
set_option linter.unusedVariables false
namespace Go.Am
open Go.Proofs
mutual
theorem fal_encVF : ∀ p : Pi, fal (encV false p) = encV false p
  | .mk o x y ps => by
    simp only [encV, fal, fals]
    rw [fal_encWF ps]
theorem fal_encWF : ∀ ps : List Pi, fal (encW false ps) = encW false ps
  | [] => by simp [encW, fal]
  | p :: ps => by
    simp only [encW, fal, fals]
    rw [fal_encVF p, fals_encVsF ps]
theorem fals_encVsF : ∀ ps : List Pi, fals (encVs false ps) = encVs false ps
  | [] => by simp [encVs, fals]
  | p :: ps => by
    simp only [encVs, fals]
    rw [fal_encVF p, fals_encVsF ps]
end
end Go.Am
end
section
set_option maxRecDepth 10000
set_option linter.unusedSimpArgs false
set_option linter.unusedVariables false
namespace Go.Am
open Go.Proofs
def ints : List Int → List PV
  | [] => []
  | x :: xs => .i x :: ints xs
theorem ints_len : ∀ xs : List Int, (ints xs).length = xs.length
  | [] => rfl
  | _ :: xs => by simp [ints, ints_len xs]
theorem ints_app : ∀ a b : List Int, ints (a ++ b) = ints a ++ ints b
  | [], _ => rfl
  | _ :: a, b => by simp [ints, ints_app a b]
theorem ints_at (a : List Int) (x : Int) (b : List Int) : nth (ints (a ++ x :: b)) a.length = some (.i x) := by
  unfold nth
  rw [ints_app, List.getElem?_append_right (by simp [ints_len])]
  simp [ints_len, ints]
theorem fals_ints : ∀ xs : List Int, fals (ints xs) = ints xs
  | [] => rfl
  | x :: xs => by simp [ints, fals_ints xs]
@[simp] theorem noShares_ints : ∀ xs : List Int, noShares (ints xs) = true
  | [] => rfl
  | x :: xs => by simp [ints, noShares_ints xs]
@[simp] theorem plains_ints : ∀ xs : List Int, plains (ints xs) = true
  | [] => rfl
  | x :: xs => by simp [ints, plains_ints xs]
/-! laws.toIntS -/
/-! laws.eqIntS: of the same list -/
end Go.Am
end
section
set_option maxRecDepth 10000
set_option linter.unusedSimpArgs false
set_option linter.unusedVariables false
namespace Go.Am
open Go.Proofs
/-! #### lists of booleans -/
def bls : List Bool → List PV
  | [] => []
  | b :: bs => .b b :: bls bs
@[simp] theorem bls_len : ∀ xs : List Bool, (bls xs).length = xs.length
  | [] => rfl
  | _ :: xs => by simp [bls, bls_len xs]
theorem bls_app : ∀ a b : List Bool, bls (a ++ b) = bls a ++ bls b
  | [], _ => rfl
  | _ :: a, b => by simp [bls, bls_app a b]
theorem bls_at (a : List Bool) (x : Bool) (b : List Bool) (n : Nat) (h : n = a.length) : (bls (a ++ x :: b))[n]? = some (.b x) := by
  subst h
  rw [bls_app, List.getElem?_append_right (by simp)]
  simp [bls]
theorem bls_set : ∀ (a : List Bool) (n : Nat) (y : Bool), (bls a).set n (.b y) = bls (a.set n y)
  | [], _, _ => rfl
  | b :: a, 0, y => rfl
  | b :: a, n + 1, y => by simp [bls, bls_set a n y]
@[simp] theorem plains_bls : ∀ a : List Bool, plains (bls a) = true
  | [] => rfl
  | b :: a => by simp [bls, plains_bls a]
@[simp] theorem knowns_bls (g : Nat → Bool) (n : Nat) : ∀ a : List Bool, knowns g n (bls a) = true
  | [] => rfl
  | b :: a => by simp [bls, knowns_bls g n a]
@[simp] theorem allc_bls : ∀ a : List Bool, (bls a).all cellP = true
  | [] => rfl
  | b :: a => by simp only [bls, List.all_cons, allc_bls a]; rfl
@[simp] theorem noRefs_bls : ∀ a : List Bool, noRefs (bls a) = true
  | [] => rfl
  | b :: a => by simp [bls, noRefs_bls a]
@[simp] theorem noShares_bls : ∀ a : List Bool, noShares (bls a) = true
  | [] => rfl
  | b :: a => by simp [bls, noShares_bls a]
@[simp] theorem atLvls_bls (n : Nat) : ∀ a : List Bool, atLvls n (bls a) = false
  | [] => rfl
  | b :: a => by simp [bls, atLvls_bls n a]
@[simp] theorem upTos_bls (n : Nat) : ∀ a : List Bool, upTos n (bls a) = true
  | [] => rfl
  | b :: a => by simp [bls, upTos_bls n a]
@[simp] theorem expos_bls (n : Nat) (g) : ∀ a : List Bool, expos n g (bls a) = some (bls a, [])
  | [] => rfl
  | b :: a => by simp [bls, expos_bls n g a]
@[simp] theorem impos_bls (n d : Nat) : ∀ (a : List Bool) (q : Nat), impos n d (bls a) q = (bls a, q, [])
  | [], _ => rfl
  | b :: a, q => by simp [bls, impos_bls n d a q]
@[simp] theorem snaps_bls (g) : ∀ a : List Bool, snaps g (bls a) = some (bls a)
  | [] => rfl
  | b :: a => by simp [bls, snaps_bls g a]
@[simp] theorem rowIds_bls (g) : ∀ a : List Bool, rowIds g (bls a) = []
  | [] => rfl
  | b :: a => by simp [bls, rowIds_bls g a]
/-! #### what a term binds and uses -/
def bnd (o x y : Int) : Int := if o = 2 then y else if o = 6 then x else -1
def usesL (o x y : Int) : List Int := if o = 1 ∨ o = 7 then [x, y] else if o = 2 then [x] else []
def usB (us : List Int) (n : Int) : Bool := us.any (fun u => decide (u = n))
def usesV (o x y : Int) : PV := if o = 1 ∨ o = 7 then .sl true 1 [.i x, .i y] else if o = 2 then .sl true 1 [.i x] else .nils
theorem eqBindsI (o x y : Int) (ps : List Pi) : callI G 53 [enc (.mk o x y ps)] [] = some (.i (bnd o x y), []) := by
  rw [callI_eq]
  by_cases h : o = 2 <;> by_cases h2 : o = 6 <;> simp [body1_eq _ _ (gp 53) g53, c53, a53, enc, h, h2, bnd]
theorem eqUsesI (o x y : Int) (ps : List Pi) : callI G 55 [enc (.mk o x y ps)] [] = some (usesV o x y, []) := by
  rw [callI_eq]
  by_cases h : o = 1 <;> by_cases h2 : o = 7 <;> by_cases h3 : o = 2 <;> simp [body1_eq _ _ (gp 55) g55, c55, a55, enc, h, h2, h3, usesV]
/-! #### impl.free -/
def orL : List Bool → List Bool → List Bool
  | a :: r, b :: bs => (a || b) :: orL r bs
  | r, _ => r
theorem orL_len : ∀ a b : List Bool, (orL a b).length = a.length
  | [], _ => by simp [orL]
  | _ :: _, [] => by simp [orL]
  | a :: r, b :: bs => by simp [orL, orL_len r bs]
def bset (b : Int) (bs : List Bool) : List Bool := if 0 ≤ b then bs.set b.toNat false else bs
def usets : List Int → List Bool → List Bool
  | [], bs => bs
  | u :: us, bs => usets us (bs.set u.toNat true)
theorem usets_len : ∀ (us : List Int) (bs : List Bool), (usets us bs).length = bs.length
  | [], _ => rfl
  | u :: us, bs => by simp [usets, usets_len us]
mutual
def fre : Pi → List Bool
  | .mk o x y ps => usets (usesL o x y) (bset (bnd o x y) (freL ps (List.replicate 30 false)))
def freL : List Pi → List Bool → List Bool
  | [], acc => acc
  | p :: ps, acc => freL ps (orL acc (fre p))
end
theorem freL_len : ∀ (ps : List Pi) (acc : List Bool), (freL ps acc).length = acc.length
  | [], _ => rfl
  | p :: ps, acc => by simp [freL, freL_len ps, orL_len]
theorem bset_len (b : Int) (bs : List Bool) : (bset b bs).length = bs.length := by unfold bset; split <;> simp
theorem fre_len : ∀ p : Pi, (fre p).length = 30
  | .mk o x y ps => by simp [fre, usets_len, bset_len, freL_len]
abbrev Z30 : List PV := [.b false, .b false, .b false, .b false, .b false, .b false, .b false, .b false, .b false, .b false, .b false, .b false, .b false, .b false, .b false, .b false, .b false, .b false, .b false, .b false, .b false, .b false, .b false, .b false, .b false, .b false, .b false, .b false, .b false, .b false]
theorem z30 : bls (List.replicate 30 false) = Z30 := rfl
theorem loopFre0 (T : List PV) (hT : T.all cellP = true) (hk : ∀ g n, knowns g n T = true) (S : PV) (hS : ∀ g n, known g n S = true) (N I : Int) :
    ∀ (br cr bd cd : List Bool), bd.length = cd.length → br.length = cr.length → bd.length + br.length = 30 → ∀ i : Int, i = bd.length →
      loopI G [1, 2, 3, 13, 14, 15, 20, 21] [1, 2, 3] c40l0 ⟨[(1, .ref (0, 1) 1 0 0), (2, .ref (0, 2) 1 0 0), (3, .ref (0, 3) 1 0 0), (13, S), (14, .i N), (15, .i I), (20, .agg (bls (cd ++ cr))), (21, .i i)], [(1, .box T), (2, .box Z30), (3, .box (bls (bd ++ br)))], []⟩ =
        some (.exit 2, ⟨[(1, .ref (0, 1) 1 0 0), (2, .ref (0, 2) 1 0 0), (3, .ref (0, 3) 1 0 0), (13, S), (14, .i N), (15, .i I), (20, .agg (bls (cd ++ cr))), (21, .i 30), (22, .b false)], [(1, .box T), (2, .box Z30), (3, .box (bls (bd ++ orL br cr)))], []⟩)
  | [], cr, bd, cd, h1, h2, h3, i, hi => by
    rw [loopI_eq]
    have h4 : cr = [] := by cases cr with | nil => rfl | cons _ _ => simp at h2
    have h5 : i = 30 := by simp at h3; omega
    subst h4 h5
    simp [r40l0, b40l0, orL, hk, hS]
  | b :: br, cr, bd, cd, h1, h2, h3, i, hi => by
    rw [loopI_eq]
    rcases cr with _ | ⟨c, cr⟩
    · simp at h2
    have hlt : i < 30 := by simp at h3; omega
    have hge : 0 ≤ i := by omega
    have hb1 := bls_at bd b br i.toNat (by omega)
    have hc1 := bls_at cd c cr i.toNat (by omega)
    have hs1 := fun y => bls_set (bd ++ b :: br) i.toNat y
    have hs2 : ∀ y, (bd ++ b :: br).set i.toNat y = bd ++ y :: br := by
      intro y
      rw [show i.toNat = bd.length by omega, List.set_append_right _ _ (Nat.le_refl _)]
      simp
    have hw : IntKind.i64.wrap (i + 1) = i + 1 := wr (by omega)
    have hl2 : i.toNat + 1 ≤ bd.length + (br.length + 1) := by omega
    have hn := loopFre0 T hT hk S hS N I br cr (bd ++ [b || c]) (cd ++ [c]) (by simp [h1]) (by simpa using h2) (by simp at h3 ⊢; omega) (i + 1) (by simp; omega)
    cases b with
    | true =>
      simp [r40l0, b40l0, hk, hS, hlt, hge, hb1, hc1, hs1, hs2, hw, hl2]
      simpa [orL] using hn
    | false =>
      simp [r40l0, b40l0, hk, hS, hlt, hge, hb1, hc1, hs1, hs2, hw, hl2]
      simpa [orL] using hn
end Go.Am
end
section
set_option maxRecDepth 10000
set_option linter.unusedSimpArgs false
set_option linter.unusedVariables false
namespace Go.Am
open Go.Proofs
theorem loopFre1 (o x y : Int) (rest : List Pi) (ih : ∀ p ∈ rest, callI G 40 [enc p] [] = some (.agg (bls (fre p)), [])) :
    ∀ (done : List Pi) (acc : List Bool), acc.length = 30 → (done ++ rest).length ≤ 9223372036854775807 →
      loopI G [1, 2, 3, 13, 14, 15] [1, 2, 3] c40l1 ⟨[(1, .ref (0, 1) 1 0 0), (2, .ref (0, 2) 1 0 0), (3, .ref (0, 3) 1 0 0), (13, .sl false 4 (encs (done ++ rest))), (14, .i (done ++ rest).length), (15, .i done.length)], [(1, .box [.i o, .i x, .i y, .sl false 4 (encs (done ++ rest))]), (2, .box Z30), (3, .box (bls acc))], []⟩ =
        some (.exit 0, ⟨[(1, .ref (0, 1) 1 0 0), (2, .ref (0, 2) 1 0 0), (3, .ref (0, 3) 1 0 0), (13, .sl false 4 (encs (done ++ rest))), (14, .i (done ++ rest).length), (15, .i (done ++ rest).length), (16, .b false)], [(1, .box [.i o, .i x, .i y, .sl false 4 (encs (done ++ rest))]), (2, .box Z30), (3, .box (bls (freL rest acc)))], []⟩) := by
  induction rest with
  | nil =>
    intro done acc ha h
    rw [loopI_eq]
    simp [r40l1, b40l1, encs_len, freL]
  | cons p rest ih2 =>
    intro done acc ha h
    rw [loopI_eq]
    have hat := encs_at done p rest
    have hlt2 : (done.length : Int) < (done.length : Int) + ((rest.length : Int) + 1) := by omega
    have hw : IntKind.i64.wrap ((done.length : Int) + 1) = (done.length : Int) + 1 := wr (by simp at h; omega)
    have hc := ih p List.mem_cons_self
    have hl0 := fun I => loopFre0 [.i o, .i x, .i y, .sl false 4 (encs (done ++ p :: rest))] rfl (by intro g n; simp) (.sl false 4 (encs (done ++ p :: rest))) (by intro g n; simp) (done ++ p :: rest).length I acc (fre p) [] [] rfl (by rw [ha, fre_len]) (by simp [ha]) 0 rfl
    have hn := ih2 (fun q hq => ih q (List.mem_cons_of_mem _ hq)) (done ++ [p]) (orL acc (fre p)) (by rw [orL_len, ha]) (by simpa using h)
    obtain ⟨o', a', b', ps⟩ := p
    simp only [enc] at hc hat
    simp only [List.nil_append, List.length_append, List.length_cons, Int.natCast_add, show ((1 : Nat) : Int) = 1 from rfl] at hl0
    simp [r40l1, b40l1, encs_len, hat, hlt2, hw, hc, hl0]
    simpa [freL, Int.add_assoc] using hn
theorem loopFre2 (rest : List Int) (hr : ∀ u ∈ rest, 0 ≤ u ∧ u < 30) :
    ∀ (done : List Int) (acc : List Bool), acc.length = 30 → (done ++ rest).length ≤ 9223372036854775807 →
      loopI G [2, 3, 42, 43, 44] [2, 3, 42] c40l2 ⟨[(2, .ref (0, 2) 1 0 0), (3, .ref (0, 3) 1 0 0), (42, .own (0, 42) (done ++ rest).length), (43, .i (done ++ rest).length), (44, .i done.length)], [(2, .box Z30), (3, .box (bls acc)), (42, .row 1 (ints (done ++ rest)))], []⟩ =
        some (.exit 4, ⟨[(2, .ref (0, 2) 1 0 0), (3, .ref (0, 3) 1 0 0), (42, .own (0, 42) (done ++ rest).length), (43, .i (done ++ rest).length), (44, .i (done ++ rest).length), (45, .b false)], [(2, .box Z30), (3, .box (bls (usets rest acc))), (42, .row 1 (ints (done ++ rest)))], []⟩) := by
  induction rest with
  | nil =>
    intro done acc ha h
    rw [loopI_eq]
    simp [r40l2, b40l2, ints_len, usets]
  | cons u rest ih2 =>
    intro done acc ha h
    rw [loopI_eq]
    have hat := ints_at done u rest
    have hlt2 : (done.length : Int) < (done.length : Int) + ((rest.length : Int) + 1) := by omega
    have hw : IntKind.i64.wrap ((done.length : Int) + 1) = (done.length : Int) + 1 := wr (by simp at h; omega)
    obtain ⟨hu0, hu1⟩ := hr u List.mem_cons_self
    have hl2 : u.toNat + 1 ≤ 30 := by omega
    have hs1 := fun y => bls_set acc u.toNat y
    have hn := ih2 (fun q hq => hr q (List.mem_cons_of_mem _ hq)) (done ++ [u]) (acc.set u.toNat true) (by simp [ha]) (by simpa using h)
    simp [r40l2, b40l2, ints_len, hat, hlt2, hw, hu0, hu1, hl2, ha, hs1]
    simpa [usets, Int.add_assoc] using hn
/-- The names of a term are names. -/
def NmOK (o x y : Int) : Prop := (∀ u ∈ usesL o x y, 0 ≤ u ∧ u < 30) ∧ bnd o x y < 30
theorem nm_iff (k : Int) : nm k = true ↔ 0 ≤ k ∧ k < 30 := by
  simp only [nm, Bool.and_eq_true, decide_eq_true_eq]
  constructor <;> intro h <;> omega
theorem nmOK {o x y : Int} {k : Nat} (hk : kindOK o x y = some (true, k)) : NmOK o x y := by
  unfold kindOK at hk
  by_cases h0 : o = 0
  · subst h0; simp [NmOK, usesL, bnd]
  by_cases h3 : o = 3
  · subst h3; simp [NmOK, usesL, bnd]
  by_cases h4 : o = 4 ∨ o = 5
  · rcases h4 with h | h <;> subst h <;> simp [NmOK, usesL, bnd]
  by_cases h6 : o = 6
  · subst h6
    simp [nm_iff] at hk
    simp [NmOK, usesL, bnd]; omega
  by_cases h1 : o = 1 ∨ o = 2 ∨ o = 7
  · rw [if_neg h0, if_neg h3, if_neg h4, if_neg h6, if_pos h1] at hk
    simp [nm_iff] at hk
    rcases h1 with h | h | h <;> subst h <;> simp [NmOK, usesL, bnd] <;> omega
  · rw [if_neg h0, if_neg h3, if_neg h4, if_neg h6, if_neg h1] at hk
    cases hk
theorem bset_box (b : Int) (acc : List Bool) (h : 0 ≤ b) : (bls acc).set b.toNat (.b false) = bls (bset b acc) := by
  rw [bls_set]; simp [bset, h]
theorem putC_full : ∀ (vs pre old : List PV), old.length = vs.length → putC (pre ++ old) pre.length vs = pre ++ vs
  | [], pre, old, h => by
    have : old = [] := List.eq_nil_of_length_eq_zero (by simpa using h)
    simp [putC, this]
  | v :: vs, pre, old, h => by
    rcases old with _ | ⟨u, old⟩
    · simp at h
    have := putC_full vs (pre ++ [v]) old (by simpa using h)
    simp only [putC]
    rw [List.set_append_right _ _ (Nat.le_refl _)]
    simpa using this
theorem putC_all (vs old : List PV) (h : old.length = vs.length) : putC old 0 vs = vs := putC_full vs [] old h
theorem loopFre2n (acc : List Bool) :
      loopI G [2, 3, 42, 43, 44] [2, 3, 42] c40l2 ⟨[(2, .ref (0, 2) 1 0 0), (3, .ref (0, 3) 1 0 0), (42, .nils), (43, .i 0), (44, .i 0)], [(2, .box Z30), (3, .box (bls acc))], []⟩ =
        some (.exit 4, ⟨[(2, .ref (0, 2) 1 0 0), (3, .ref (0, 3) 1 0 0), (42, .nils), (43, .i 0), (44, .i 0), (45, .b false)], [(2, .box Z30), (3, .box (bls acc))], []⟩) := by
  rw [loopI_eq]
  simp [r40l2, b40l2]
theorem b47 (o x y : Int) (ps : List Pi) (hl : ps.length ≤ 9223372036854775807) (hn : NmOK o x y) (ih : ∀ p ∈ ps, callI G 40 [enc p] [] = some (.agg (bls (fre p)), [])) : callI G 40 [enc (.mk o x y ps)] [] = some (.agg (bls (fre (.mk o x y ps))), []) := by
  have hl1 := loopFre1 o x y ps ih [] (List.replicate 30 false) (by simp) (by simpa using hl)
  rw [z30] at hl1
  simp only [List.nil_append, List.length_nil, show ((0 : Nat) : Int) = 0 from rfl] at hl1
  have hb := eqBindsI o x y ps
  have hu := eqUsesI o x y ps
  have hlen2 : (freL ps (List.replicate 30 false)).length = 30 := by simp [freL_len]
  have htk : ∀ l : List Bool, l.length = 30 → (bls l).take 30 = bls l := fun l h => List.take_of_length_le (by simp [h])
  have hput : ∀ l : List Bool, l.length = 30 → putC Z30 0 (bls l) = bls l := fun l h => putC_all _ _ (by simp [h])
  simp only [enc] at hb hu
  have hfre : fre (.mk o x y ps) = usets (usesL o x y) (bset (bnd o x y) (freL ps (List.replicate 30 false))) := rfl
  have hB30 := hn.2
  have hB1 := bset_box (bnd o x y) (freL ps (List.replicate 30 false))
  have hB2 : ¬ 0 ≤ bnd o x y → bset (bnd o x y) (freL ps (List.replicate 30 false)) = freL ps (List.replicate 30 false) := fun h => by simp [bset, h]
  have hBl : ∀ B, (bset B (freL ps (List.replicate 30 false))).length = 30 := by simp [bset_len, freL_len]
  have hl2 := loopFre2 (usesL o x y) hn.1 [] (bset (bnd o x y) (freL ps (List.replicate 30 false))) (hBl _) (by unfold usesL; split <;> (try split) <;> simp)
  simp only [List.nil_append, List.length_nil, show ((0 : Nat) : Int) = 0 from rfl] at hl2
  have hlen3 := fre_len (.mk o x y ps)
  rw [hfre] at hlen3 ⊢
  have hBl := hBl (bnd o x y)
  generalize freL ps (List.replicate 30 false) = FL at *
  generalize hBB : bnd o x y = B at *
  rw [callI_eq]
  by_cases hB : 0 ≤ B
  · have hBn : B.toNat + 1 ≤ 30 := by omega
    have hB1 := hB1 hB
    generalize hBS : bset B FL = BS at *
    by_cases h17 : o = 1 ∨ o = 7
    · simp only [usesL, usesV, h17, if_true, ints, List.length_cons, List.length_nil, Nat.zero_add, Nat.reduceAdd, show ((2 : Nat) : Int) = 2 from rfl] at hl2 hu hlen3 ⊢
      simp [body1_eq _ _ (gp 40) g40, c40, a40, enc, encs_len, hl1, hb, hB, hB30, hBn, hB1, hlen2, hu, hl2, hBl, htk, hput, hlen3]
    · by_cases h2 : o = 2
      · have hU : usesL o x y = [x] := by simp [usesL, h2]
        have hV : usesV o x y = .sl true 1 [.i x] := by simp [usesV, h2]
        simp only [hU, hV, ints, List.length_cons, List.length_nil, Nat.zero_add, show ((1 : Nat) : Int) = 1 from rfl] at hl2 hu hlen3 ⊢
        simp [body1_eq _ _ (gp 40) g40, c40, a40, enc, encs_len, hl1, hb, hB, hB30, hBn, hB1, hlen2, hu, hl2, hBl, htk, hput, hlen3]
      · have hl3 := loopFre2n BS
        simp only [usesL, usesV, h17, h2, if_false] at hu hlen3 ⊢
        simp [body1_eq _ _ (gp 40) g40, c40, a40, enc, encs_len, hl1, hb, hB, hB30, hBn, hB1, hlen2, hu, hl3, hBl, htk, hput, hlen3, usets]
  · have e2 := hB2 hB
    rw [e2] at hl2 hlen3 ⊢
    by_cases h17 : o = 1 ∨ o = 7
    · simp only [usesL, usesV, h17, if_true, ints, List.length_cons, List.length_nil, Nat.zero_add, Nat.reduceAdd, show ((2 : Nat) : Int) = 2 from rfl] at hl2 hu hlen3 ⊢
      simp [body1_eq _ _ (gp 40) g40, c40, a40, enc, encs_len, hl1, hb, hB, hlen2, hu, hl2, htk, hput, hlen3]
    · by_cases h2 : o = 2
      · have hU : usesL o x y = [x] := by simp [usesL, h2]
        have hV : usesV o x y = .sl true 1 [.i x] := by simp [usesV, h2]
        simp only [hU, hV, ints, List.length_cons, List.length_nil, Nat.zero_add, show ((1 : Nat) : Int) = 1 from rfl] at hl2 hu hlen3 ⊢
        simp [body1_eq _ _ (gp 40) g40, c40, a40, enc, encs_len, hl1, hb, hB, hlen2, hu, hl2, htk, hput, hlen3]
      · have hl3 := loopFre2n FL
        simp only [usesL, usesV, h17, h2, if_false] at hu hlen3 ⊢
        simp [body1_eq _ _ (gp 40) g40, c40, a40, enc, encs_len, hl1, hb, hB, hlen2, hu, hl3, htk, hput, hlen3, usets]
mutual
theorem eq47 : ∀ p : Pi, Fit p → shape p = true → callI G 40 [enc p] [] = some (.agg (bls (fre p)), [])
  | .mk o x y ps, hf, hs => by
    simp only [shape] at hs
    rcases hk : kindOK o x y with _ | ⟨ok, k⟩
    · simp [hk] at hs
    simp only [hk, Bool.and_eq_true, decide_eq_true_eq] at hs
    obtain ⟨h1, h2, h3⟩ := hs
    subst h1
    exact b47 o x y ps hf.1 (nmOK hk) (eq47s ps hf.2 h3)
theorem eq47s : ∀ ps : List Pi, Fits ps → shapes ps = true → ∀ p ∈ ps, callI G 40 [enc p] [] = some (.agg (bls (fre p)), [])
  | [], _, _, p, h => by cases h
  | q :: ps, hf, hs, p, h => by
    simp only [shapes, Bool.and_eq_true] at hs
    rcases List.mem_cons.1 h with h | h
    · rw [h]; exact eq47 q hf.1 hs.1
    · exact eq47s ps hf.2 hs.2 p h
end
end Go.Am
end
