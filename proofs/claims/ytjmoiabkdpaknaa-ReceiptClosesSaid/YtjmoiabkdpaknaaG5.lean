import Derived.Test.YtjmoiabkdpaknaaG4
set_option linter.unusedSectionVars false
set_option linter.unusedVariables false
set_option linter.unusedSimpArgs false
set_option linter.constructorNameAsVariable false
namespace Go.AM
open Go.Proofs
set_option linter.unusedVariables false
set_option linter.unusedSimpArgs false
set_option linter.constructorNameAsVariable false
set_option maxRecDepth 20000
section
variable {β : Type} {P : Program} {T : Tab} {D : DTab} {N : Nat} {K : AV → Hp → Option β}
abbrev SL {α : Type} (sz : Nat) (f : α → List AV) (b : Bool) (l : List α) : AV := .lst sz (b && l.isEmpty) (l.map f)
theorem F_slices_Clone_Good_val (l : List Gd) (b : Bool) (hl : l.length < 1000000) (h : Hp) : F_slices_Clone_Good [SL 3 encG b l] h = some (SL 3 encG b l, h) := by
  refine (F_slices_Clone_Good_run (v := if b && l.isEmpty then nilS else SL 3 encG b l) rfl ?_ h).trans ?_
  · by_cases hb : (b && l.isEmpty) = true
    · simp [f_slices_Clone_Good, hb]
    · have hb' : (b && l.isEmpty) = false := by simpa using hb
      have hle : l.length * 24 ≤ 140737488355328 := by omega
      have h2 : ((l.map encG).all fun e => e.length == 3) = true := by simp [encG]
      have h3 : okE false (l.map encG) = true := okE_map (by intro x; simp [encG])
      simp [f_slices_Clone_Good, hb', bsE, fillS, appE, readSl, hle, h2, ap]
      rw [cvt_whole rfl (by simp) (by simp) h3, SL, hb']
  · by_cases hb : (b && l.isEmpty) = true
    · obtain ⟨rfl, hl0⟩ := Bool.and_eq_true_iff.1 hb
      have : l = [] := by simpa using hl0
      subst this
      rfl
    · rw [if_neg hb]
      rfl
theorem F_slices_Clone_int_val (l : List Int) (b : Bool) (hl : l.length < 1000000) (h : Hp) : F_slices_Clone_int [SL 1 encI b l] h = some (SL 1 encI b l, h) := by
  refine (F_slices_Clone_int_run (v := if b && l.isEmpty then nilS else SL 1 encI b l) rfl ?_ h).trans ?_
  · by_cases hb : (b && l.isEmpty) = true
    · simp [f_slices_Clone_int, hb]
    · have hb' : (b && l.isEmpty) = false := by simpa using hb
      have hle : l.length * 8 ≤ 140737488355328 := by omega
      have h2 : ((l.map encI).all fun e => e.length == 1) = true := by simp [encI]
      have h3 : okE false (l.map encI) = true := okE_map (by intro x; simp [encI])
      simp [f_slices_Clone_int, hb', bsE, fillS, appE, readSl, hle, h2, ap]
      rw [cvt_whole rfl (by simp) (by simp) h3, SL, hb']
  · by_cases hb : (b && l.isEmpty) = true
    · obtain ⟨rfl, hl0⟩ := Bool.and_eq_true_iff.1 hb
      have : l = [] := by simpa using hl0
      subst this
      rfl
    · rw [if_neg hb]
      rfl
theorem F_slices_Clone_Line_val (l : List Ln) (b : Bool) (hl : l.length < 1000000) (h : Hp) : F_slices_Clone_Line [SL 8 encLn b l] h = some (SL 8 encLn b l, h) := by
  refine (F_slices_Clone_Line_run (v := if b && l.isEmpty then nilS else SL 8 encLn b l) rfl ?_ h).trans ?_
  · by_cases hb : (b && l.isEmpty) = true
    · simp [f_slices_Clone_Line, hb]
    · have hb' : (b && l.isEmpty) = false := by simpa using hb
      have hle : l.length * 64 ≤ 140737488355328 := by omega
      have h2 : ((l.map encLn).all fun e => e.length == 8) = true := by simp [encLn]
      have h3 : okE false (l.map encLn) = true := okE_map (by intro x; simp [encLn])
      simp [f_slices_Clone_Line, hb', bsE, fillS, appE, readSl, hle, h2, ap]
      rw [cvt_whole rfl (by simp) (by simp) h3, SL, hb']
  · by_cases hb : (b && l.isEmpty) = true
    · obtain ⟨rfl, hl0⟩ := Bool.and_eq_true_iff.1 hb
      have : l = [] := by simpa using hl0
      subst this
      rfl
    · rw [if_neg hb]
      rfl
end
structure Prc where
  b1 : Bool
  sent : List Gd
  b2 : Bool
  got : List Gd
  b3 : Bool
  tol : List Int
def encPr (p : Prc) : List AV := [SL 3 encG p.b1 p.sent, SL 3 encG p.b2 p.got, SL 1 encI p.b3 p.tol]
def cmpP (p : Prc) : List Ln × Int := cmpS p.sent p.got p.tol
theorem F_law44_compare_val (p : Prc) (h1 : p.sent.length < 1000) (h2 : p.got.length < 1000) (h3 : p.tol.length < 1000) (h : Hp) : F_law44_compare [.agg (encPr p)] h = some (.tup [.lst 8 (cmpP p).1.isEmpty ((cmpP p).1.map encLn), I (cmpP p).2], h) := by
  have c1 := F_slices_Clone_Good_val p.sent p.b1 (by omega)
  have c2 := F_slices_Clone_Good_val p.got p.b2 (by omega)
  have c3 := F_slices_Clone_int_val p.tol p.b3 (by omega)
  have cc := F_receipt_Compare_val p.sent p.got p.tol (p.b1 && p.sent.isEmpty) (p.b2 && p.got.isEmpty) (p.b3 && p.tol.isEmpty) h1 h2 h3
  have g1 : ∀ h base, G_slices_Clone_Good [SL 3 encG p.b1 p.sent] h base = some (SL 3 encG p.b1 p.sent, EF []) := fun h base => (closedXD_val (c1 h) base).trans (by simp [idss, ids])
  have g2 : ∀ h base, G_slices_Clone_Good [SL 3 encG p.b2 p.got] h base = some (SL 3 encG p.b2 p.got, EF []) := fun h base => (closedXD_val (c2 h) base).trans (by simp [idss, ids])
  have g3 : ∀ h base, G_slices_Clone_int [SL 1 encI p.b3 p.tol] h base = some (SL 1 encI p.b3 p.tol, EF []) := fun h base => (closedXD_val (c3 h) base).trans (by simp [idss, ids])
  have g4 : ∀ h base, G_receipt_Compare [SL 3 encG p.b1 p.sent, SL 3 encG p.b2 p.got, SL 1 encI p.b3 p.tol] h base = some (.tup [.lst 8 (cmpP p).1.isEmpty ((cmpP p).1.map encLn), I (cmpP p).2], EF []) := fun h base => (closedXD_val (cc h) base).trans (by simp [idss, ids, cmpP])
  refine (F_law44_compare_run (a0 := .agg (encPr p)) (v := .tup [.lst 8 (cmpP p).1.isEmpty ((cmpP p).1.map encLn), I (cmpP p).2]) (by simp [encPr]) ?_ h).trans rfl
  show f_law44_compare _ _ _ _ _ (.agg (encPr p)) _ = _
  simp only [encPr]
  generalize cmpP p = cp at *
  obtain ⟨o, er⟩ := cp
  dsimp only at *
  generalize o.map encLn = O at *
  generalize o.isEmpty = oe at *
  simp only [SL] at g1 g2 g3 g4 ⊢
  generalize p.sent.map encG = S at *
  generalize p.got.map encG = G at *
  generalize p.tol.map encI = TT at *
  simp [f_law44_compare, boxE, g1, g2, g3, g4, disjAll, disj2, idsOf, wrOf]
abbrev exSent : List Gd := [⟨1, 1, 1000⟩, ⟨2, 2, 500⟩]
abbrev exGot : List Gd := [⟨1, 1, 960⟩, ⟨3, 2, 7⟩]
abbrev exTol : List Int := [300, 0, 0, 0, 0, 0, 0, 0, 0]
abbrev exLines : List Ln := [⟨1, 1, 1000, 960, ⟨30, 0, 10, 0⟩⟩, ⟨2, 2, 500, 0, ⟨0, 0, 500, 0⟩⟩, ⟨3, 2, 0, 7, ⟨0, 0, 0, 7⟩⟩]
theorem F_law44_example_val (h : Hp) : F_law44_example [] h = some (.tup [.lst 3 false (exSent.map encG), .lst 3 false (exGot.map encG), .lst 1 false (exTol.map encI)], h) := by
  refine (F_law44_example_run (v := .tup [.lst 3 false (exSent.map encG), .lst 3 false (exGot.map encG), .lst 1 false (exTol.map encI)]) rfl ?_ h).trans rfl
  simp [f_law44_example, buildK, fillA, bsE, fillS, encG, cvt, okE]
theorem ex_cmp : cmpS exSent exGot exTol = (exLines, 0) := by
  have h1 : rightG exSent = true := by decide
  have h2 : rightG exGot = true := by decide
  have h3 : mergeG exSent exGot = [(⟨1, 1, 1000⟩, ⟨1, 1, 960⟩), (⟨2, 2, 500⟩, zG), (zG, ⟨3, 2, 7⟩)] := by simp [mergeG]
  unfold cmpS
  rw [h1, h2, h3]
  decide
theorem F_law44_awake_val (h : Hp) : F_law44_awake [] h = some (B true, h) := by
  refine F_law44_awake_run rfl ?_ h
  have fe := F_law44_example_val
  have r1 := F_receipt_Compare_val exSent exGot exTol false false false (by decide) (by decide) (by decide)
  rw [ex_cmp] at r1
  have r2 := F_receipt_Total_val exLines false (by decide)
  rw [show totalLn exLines = ((1500, 967, ⟨30, 0, 510, 7⟩), 0) by decide] at r2
  have r3 := F_receipt_Accepts_val exLines false 510 (by decide)
  rw [show acceptLn exLines 510 = (true, 0) by decide] at r3
  have r4 := F_receipt_Accepts_val exLines false 509 (by decide)
  rw [show acceptLn exLines 509 = (false, 0) by decide] at r4
  have r5 := F_slices_Equal_Line_val exLines exLines false false (by decide)
  have r6 := F_receipt_Verify_val exSent exGot exTol exLines false false false false (by decide) (by decide) (by decide)
  rw [show verifyS exSent exGot exTol exLines = 0 by unfold verifyS; rw [ex_cmp]; decide] at r6
  have hcv : ∀ (h : Hp) (id : Nat), h[id]? = some (.arr 8 (exLines.map encLn) true false) → cvt false h (.sl 8 id 0 3 3 true) = some (.lst 8 false (exLines.map encLn)) := fun h id hid => cvt_whole hid rfl rfl rfl
  have r5' : ∀ (h : Hp) (id : Nat), h[id]? = some (.arr 8 (exLines.map encLn) true false) → F_slices_Equal_Line [.lst 8 false (exLines.map encLn), .sl 8 id 0 3 3 true] h = some (B true, h) := fun h id hid =>
    closedX_scal (asl := [.lst 8 false (exLines.map encLn), .lst 8 false (exLines.map encLn)]) (h0 := []) (by simp only [cvts, hcv h id hid]; rfl) ((r5 []).trans (by simp)) rfl
  have r6' : ∀ (h : Hp) (id : Nat), h[id]? = some (.arr 8 (exLines.map encLn) true false) → F_receipt_Verify [.lst 3 false (exSent.map encG), .lst 3 false (exGot.map encG), .lst 1 false (exTol.map encI), .sl 8 id 0 3 3 true] h = some (I 0, h) := fun h id hid =>
    closedX_scal (asl := [.lst 3 false (exSent.map encG), .lst 3 false (exGot.map encG), .lst 1 false (exTol.map encI), .lst 8 false (exLines.map encLn)]) (h0 := []) (by simp only [cvts, hcv h id hid]; rfl) (r6 []) rfl
  have hE : exLines.map encLn = [[I 1, I 1, I 1000, I 960, I 30, I 0, I 10, I 0], [I 2, I 2, I 500, I 0, I 0, I 0, I 500, I 0], [I 3, I 2, I 0, I 7, I 0, I 0, I 0, I 7]] := rfl
  simp only [List.isEmpty_cons] at r1
  simp only [encO] at r2
  generalize exSent.map encG = S at *
  generalize exGot.map encG = G at *
  generalize exTol.map encI = TT at *
  rw [hE] at r1 r2 r3 r4 r5' r6'
  clear hE hcv r5 r6
  simp [f_law44_awake, fe, r1, r2, r3, r4, r5', r6', boxE, stE, ap, bsE, fillS, buildK, fillA, eqs_44, show IntKind.i64.wrap 0 = 0 from by kernel_rfl]
end Go.AM


namespace Go.AM
open Go.Proofs
set_option linter.unusedVariables false
set_option linter.unusedSimpArgs false
set_option linter.constructorNameAsVariable false
set_option maxRecDepth 20000
theorem has_Gd {cs : List AV} (h : HasTs [.int .i64, .int .i64, .int .i64] cs) : ∃ p : Gd, cs = encG p := by
  simp only [HasTs, HasT] at h
  obtain ⟨_, _, rfl, ⟨a, rfl, _⟩, _, _, rfl, ⟨b, rfl, _⟩, _, _, rfl, ⟨c, rfl, _⟩, rfl⟩ := h
  exact ⟨⟨a, b, c⟩, rfl⟩
theorem has_Gds {a : AV} (h : HasT (.sl [.int .i64, .int .i64, .int .i64]) a) : ∃ (l : List Gd) (b : Bool), a = SL 3 encG b l := has_list (fun _ h => has_Gd h) h
theorem has_Int1 {cs : List AV} (h : HasTs [.int .i64] cs) : ∃ p : Int, cs = encI p := by
  simp only [HasTs, HasT] at h
  obtain ⟨_, _, rfl, ⟨a, rfl, _⟩, rfl⟩ := h
  exact ⟨a, rfl⟩
theorem has_Ints {a : AV} (h : HasT (.sl [.int .i64]) a) : ∃ (l : List Int) (b : Bool), a = SL 1 encI b l := has_list (fun _ h => has_Int1 h) h
theorem has_Prc {cs : List AV} (h : HasTs [.sl [.int .i64, .int .i64, .int .i64], .sl [.int .i64, .int .i64, .int .i64], .sl [.int .i64]] cs) : ∃ p : Prc, cs = encPr p := by
  simp only [HasTs] at h
  obtain ⟨_, _, rfl, ha, _, _, rfl, hb, _, _, rfl, hc, rfl⟩ := h
  obtain ⟨l1, b1, rfl⟩ := has_Gds ha
  obtain ⟨l2, b2, rfl⟩ := has_Gds hb
  obtain ⟨l3, b3, rfl⟩ := has_Ints hc
  exact ⟨⟨b1, l1, b2, l2, b3, l3⟩, rfl⟩
end Go.AM


namespace Go.AM
open Go.Proofs
set_option linter.unusedVariables false
set_option linter.unusedSimpArgs false
set_option linter.constructorNameAsVariable false
set_option maxRecDepth 20000
theorem cmp_ok {s t : List Gd} {tol : List Int} (h : (cmpS s t tol).2 = 0) : rightG s = true ∧ rightG t = true ∧ okTol tol ∧ (mergeG s t).any clashG = false ∧ (mergeG s t).length ≤ 64 ∧ (cmpS s t tol).1 = (mergeG s t).map (lineG tol) := by
  unfold cmpS at h ⊢
  split at h
  · simp at h
  · rename_i h1
    split at h
    · simp at h
    · rename_i h2
      split at h
      · simp at h
      · rename_i h3
        split at h
        · simp at h
        · rename_i h4
          split at h
          · simp at h
          · rename_i h5
            simp only [Bool.not_eq_false, Bool.and_eq_true] at h1
            have hok : okTol tol := ⟨by simpa using h2, fun n hn => by
              have := List.any_eq_false.1 (by simpa using h3 : (tol.any fun n => !win n 0 10000) = false) n hn
              simp [win] at this; omega⟩
            refine ⟨h1.1, h1.2, hok, by simpa using h4, by omega, ?_⟩
            rw [if_neg (by simp [h1]), if_neg h2, if_neg h3, if_neg h4, if_neg h5]
theorem cmp_err {s t : List Gd} {tol : List Int} (h : (cmpS s t tol).2 ≠ 0) : (cmpS s t tol).1 = [] := by
  unfold cmpS at h ⊢
  split
  · rfl
  · split
    · rfl
    · split
      · rfl
      · split
        · rfl
        · split
          · rfl
          · rename_i h1 h2 h3 h4 h5
            rw [if_neg h1, if_neg h2, if_neg h3, if_neg h4, if_neg h5] at h
            simp at h
theorem mul_le (x t : Int) (h1 : 0 ≤ x) (h2 : 0 ≤ t ∧ t ≤ 10000) : 0 ≤ x * t / 10000 ∧ x * t / 10000 ≤ x := by
  have a1 : 0 ≤ x * t := Int.mul_nonneg h1 h2.1
  have a2 : x * t ≤ x * 10000 := Int.mul_le_mul_of_nonneg_left h2.2 h1
  omega
theorem loss_ok {e f a : Int} (h1 : 0 ≤ e ∧ e ≤ 10737418240000) (h2 : 0 ≤ f ∧ f ≤ 10737418240000) (h3 : 0 ≤ a ∧ a ≤ e) : okO (lossL e f a 0) = true ∧ e + (lossL e f a 0).su = f + (lossL e f a 0).ev + (lossL e f a 0).op + (lossL e f a 0).df ∧ (lossL e f a 0).op = 0 := by
  unfold lossL
  split
  · simp [okO, alcL, win]; omega
  · have q : min 0 (e - f - min a (e - f)) = 0 := by omega
    simp only [q]
    simp [okO, alcL, win]; omega
theorem find_or {l : List Gd} (h : rightG l = true) (id : Int) : findG l id = zG ∨ (findG l id ∈ l ∧ (findG l id).id = id ∧ badG (findG l id) = false) := by
  rcases find_cases l id with ⟨e, -⟩ | ⟨e1, e2⟩
  · exact .inl e
  · exact .inr ⟨e1, e2, (rightG_spec h).2.1 _ e1⟩
theorem badG_bd {g : Gd} (h : badG g = false) : (1 ≤ g.id ∧ g.id ≤ 1073741824) ∧ (1 ≤ g.cls ∧ g.cls ≤ 9) ∧ (1 ≤ g.alc ∧ g.alc ≤ 10737418240000) := by
  simp [badG, win] at h; omega
theorem zG_z : zG.id = 0 ∧ zG.cls = 0 ∧ zG.alc = 0 := ⟨rfl, rfl, rfl⟩
theorem merge_pair {s t : List Gd} (hs : rightG s = true) (ht : rightG t = true) {p : Gd × Gd} (hp : p ∈ mergeG s t) :
    (p.1 = zG ∧ p.2 ∈ t ∧ badG p.2 = false) ∨ (p.1 ∈ s ∧ badG p.1 = false ∧ (p.2 = zG ∨ (p.2 ∈ t ∧ badG p.2 = false ∧ p.2.id = p.1.id))) := by
  obtain ⟨-, s1, s2⟩ := right_all hs
  obtain ⟨-, t1, t2⟩ := right_all ht
  obtain ⟨m1, -, -, -⟩ := merge_spec s t s1 t1 (fun g hg => (s2 g hg).1) (fun g hg => (t2 g hg).1)
  obtain ⟨e, hor⟩ := m1 p hp
  have e1 : p.1 = findG s (keyG p) := congrArg Prod.fst e
  have e2 : p.2 = findG t (keyG p) := congrArg Prod.snd e
  generalize keyG p = k at *
  rw [e1, e2]
  rcases find_or hs k with f | ⟨f1, f2, f3⟩
  · rcases find_or ht k with g | ⟨g1, g2, g3⟩
    · exfalso
      rcases hor with ⟨x, hx, rfl⟩ | ⟨x, hx, rfl⟩
      · have := find_mem s1 hx
        rw [f] at this
        have := (s2 x hx).1
        rw [← ‹zG = x›] at this
        simp [zG] at this
      · have := find_mem t1 hx
        rw [g] at this
        have := (t2 x hx).1
        rw [← ‹zG = x›] at this
        simp [zG] at this
    · exact .inl ⟨f, g1, g3⟩
  · right
    refine ⟨f1, f3, ?_⟩
    rcases find_or ht k with g | ⟨g1, g2, g3⟩
    · exact .inl g
    · exact .inr ⟨g1, g3, by rw [g2, f2]⟩
theorem pair_bd {s t : List Gd} (hs : rightG s = true) (ht : rightG t = true) {p : Gd × Gd} (hp : p ∈ mergeG s t) :
    (0 ≤ p.1.alc ∧ p.1.alc ≤ 10737418240000) ∧ (0 ≤ p.2.alc ∧ p.2.alc ≤ 10737418240000) ∧ (1 ≤ max p.1.id p.2.id ∧ max p.1.id p.2.id ≤ 1073741824) ∧ (1 ≤ max p.1.cls p.2.cls ∧ max p.1.cls p.2.cls ≤ 9) ∧ ¬ (p.1.alc = 0 ∧ p.2.alc = 0) := by
  obtain ⟨z1, z2, z3⟩ := zG_z
  rcases merge_pair hs ht hp with ⟨a1, a2, a3⟩ | ⟨a1, a2, a3 | ⟨a3, a4, -⟩⟩
  · have := badG_bd a3
    rw [a1, z1, z2, z3]; omega
  · have := badG_bd a2
    rw [a3, z1, z2, z3]; omega
  · have := badG_bd a2
    have := badG_bd a4
    omega
theorem line_ok {s t : List Gd} {tol : List Int} (hs : rightG s = true) (ht : rightG t = true) (hok : okTol tol) {p : Gd × Gd} (hp : p ∈ mergeG s t) : okLn (lineG tol p) = true ∧ (lineG tol p).los.op = 0 := by
  obtain ⟨b1, b2, b3, b4, b5⟩ := pair_bd hs ht hp
  obtain ⟨c1, c2, c3⟩ := loss_ok b1 b2 (mul_le p.1.alc _ b1.1 (tolAt_bd hok b4.1 b4.2).2)
  have e0 : (!(p.1.alc == 0 && p.2.alc == 0)) = true := by simp; omega
  refine ⟨?_, c3⟩
  unfold okLn sumLn lineG
  dsimp only
  rw [c1, e0]
  have e1 : alcL p.1.alc = true := by simp [alcL, win]; omega
  have e2 : alcL p.2.alc = true := by simp [alcL, win]; omega
  have e3 : win (max p.1.id p.2.id) 1 1073741824 = true := by simp [win]; omega
  have e4 : win (max p.1.cls p.2.cls) 1 9 = true := by simp [win]; omega
  rw [e1, e2, e3, e4]
  simpa using c2
theorem linesG_of : ∀ (l : List Ln) (p : Option Ln), (∀ x ∈ l, okLn x = true) → sLn l → (∀ q, p = some q → ∀ x ∈ l, q.id < x.id) → linesG p l = true
  | [], _, _, _, _ => rfl
  | x :: l, p, h1, h2, h3 => by
    rw [linesG]
    obtain ⟨a1, a2⟩ := List.pairwise_cons.1 h2
    have := linesG_of l (some x) (fun y hy => h1 y (by simp [hy])) a2 (fun q hq y hy => by cases hq; exact a1 y hy)
    rw [h1 x (by simp), this]
    cases p with
    | none => rfl
    | some q =>
      have := h3 q rfl x (by simp)
      simp [ltLn, this]
theorem cmp_lines {s t : List Gd} {tol : List Int} (h : (cmpS s t tol).2 = 0) : linesS (cmpS s t tol).1 = true := by
  obtain ⟨h1, h2, h3, h4, h5, h6⟩ := cmp_ok h
  rw [h6, linesS_eq]
  obtain ⟨-, s1, s2⟩ := right_all h1
  obtain ⟨-, t1, t2⟩ := right_all h2
  obtain ⟨-, m2, -, -⟩ := merge_spec s t s1 t1 (fun g hg => (s2 g hg).1) (fun g hg => (t2 g hg).1)
  rw [linesG_of _ none (fun x hx => by
    obtain ⟨p, hp, rfl⟩ := List.mem_map.1 hx
    exact (line_ok h1 h2 h3 hp).1) (by
    show List.Pairwise _ _
    rw [List.pairwise_map]
    exact m2.imp fun h => h) (fun q hq => by cases hq)]
  simpa using h5
section
variable {β : Type} {P : Program} {T : Tab} {D : DTab} {N : Nat} {K : AV → Hp → Option β}
theorem IndexFunc_Line_L2 {x0 : Hp → Option β} {xr : AV → Hp → Option β} {l : List Ln} {b : Bool} {fv : AV} {h : Hp} {p : Ln → Bool} (hl : l.length < 4611686018427387904) (hp : ∀ x ∈ l, ∀ k : AV → Hp → Option β, callVK T fv [.agg (encLn x)] h k = k (B (p x)) h) :
    ∀ (n i : Nat), i ≤ l.length → l.length < i + n → f_slices_IndexFunc_Line_L2 P T D N x0 xr n (.lst 8 b (l.map encLn)) fv (I l.length) (I i) h = match (l.drop i).findIdx? p with | some j => xr (I ((i + j : Nat) : Int)) h | none => x0 h := by
  intro n
  induction n with
  | zero => intro i h1 h2; omega
  | succ n ih =>
    intro i h1 h2
    show f_slices_IndexFunc_Line_b2 P T D N (f_slices_IndexFunc_Line_L2 P T D N x0 xr n) x0 xr _ _ _ _ h = _
    unfold f_slices_IndexFunc_Line_b2
    rcases Nat.lt_or_ge i l.length with hi | hi
    · have hx : l[i]? = some l[i] := List.getElem?_eq_getElem hi
      have hlt : ((i : Int) < (l.length : Int)) := by omega
      have hw : IntKind.i64.wrap ((i : Int) + 1) = ((i + 1 : Nat) : Int) := by rw [wrap64 (by omega) (by omega)]; omega
      have hpx := hp l[i] (List.getElem_mem hi)
      rw [List.drop_eq_getElem_cons hi, List.findIdx?_cons]
      simp [hlt, hx, hw, encLn] at hpx ⊢
      rw [hpx]
      cases hc : p l[i] with
      | true => simp
      | false =>
        have h3 := ih (i + 1) hi (by omega)
        rw [show ((i : Int) + 1) = ((i + 1 : Nat) : Int) by omega]
        simp only [Bool.false_eq_true, if_false]
        refine h3.trans ?_
        cases (List.drop (i + 1) l).findIdx? p with
        | none => rfl
        | some j =>
          show xr (I ((i + 1 + j : Nat) : Int)) h = xr (I ((i + (j + 1) : Nat) : Int)) h
          rw [show i + 1 + j = i + (j + 1) by omega]
    · have : i = l.length := by omega
      subst this
      simp
theorem IndexFunc_Line_K {l : List Ln} {b : Bool} {fv : AV} {h : Hp} {p : Ln → Bool} {K : AV → Hp → Option β} (hl : l.length < N) (hN : N < 4611686018427387904) (hp : ∀ x ∈ l, ∀ k : AV → Hp → Option β, callVK T fv [.agg (encLn x)] h k = k (B (p x)) h) :
    f_slices_IndexFunc_Line P T D N K (.lst 8 b (l.map encLn)) fv h = K (I (match l.findIdx? p with | some j => (j : Int) | none => -1)) h := by
  unfold f_slices_IndexFunc_Line
  simp only [lenK_lst, List.length_map]
  have := IndexFunc_Line_L2 (P := P) (D := D) (N := N) (b := b) (x0 := fun h => f_slices_IndexFunc_Line_j1 P T D N K h) (xr := fun a h => K a h) (by omega) hp N 0 (Nat.zero_le _) (by omega)
  simp only [List.drop_zero] at this
  refine this.trans ?_
  cases l.findIdx? p with
  | none => rfl
  | some j => simp
end
end Go.AM


namespace Go.AM
open Go.Proofs
set_option linter.unusedVariables false
set_option linter.unusedSimpArgs false
set_option linter.constructorNameAsVariable false
set_option maxRecDepth 20000
def goodLn (x : Ln) : Gd := ⟨x.id, x.cls, x.got⟩
section
variable {β : Type}
end
structure Two (h : Hp) (v : AV) (A : List Gd) (w : AV) (B : List Gd) : Prop where
  g1 : Gro 3 encG h v A
  g2 : Gro 3 encG h w B
  ne : ∀ k, idOf v = some k → idOf w ≠ some k
theorem Two.app {h : Hp} {v w : AV} {A B : List Gd} (W : Two h v A w B) (x : List AObj) : Two (h ++ x) v A w B := ⟨W.g1.app x, W.g2.app x, W.ne⟩
theorem Two.snoc {h : Hp} {v w : AV} {A B : List Gd} (β : Type) (W : Two h v A w B) {m : Nat} {z : Gd} {b : Bool} (hm : h[m]? = some (.arr 3 [encG z] true false)) (hv : idOf v ≠ some m) (hl : A.length < 1000000) :
    ∃ v' h', (∀ k : AV → Hp → Option β, effK (appE 3 24 v (.sl 3 m 0 1 1 b) h h.length) h k = k v' h') ∧ Two h' v' (A ++ [z]) w B := by
  obtain ⟨v', h3, k1, k2, k3, k4, k5⟩ := W.g1.snoc β (by_ := 24) (m := m) (z := z) (b := b) hm hv (by intro y _; rfl) (by omega)
  refine ⟨v', h3, k1, k2, W.g2.keep fun k o hk ho => k4 k o ho fun e => W.ne k e hk, fun k e1 e2 => ?_⟩
  rcases k5 with k5 | k5
  · exact W.ne k (k5 ▸ e1) e2
  · rw [k5] at e1
    cases e1
    have := W.g2.lt e2
    omega
theorem lines_sorted {l : List Ln} (h : linesS l = true) : sLn l ∧ (∀ x ∈ l, okLn x = true) ∧ l.length ≤ 64 := by
  unfold linesS at h
  rw [Bool.and_eq_true, decide_eq_true_eq] at h
  cases hc : checkG (fun x => !okLn x) ltLn none l 0 with
  | none =>
    have := checkG_none (fun a b c p q => by simp [ltLn] at *; omega) l none 0 hc
    exact ⟨this.2.1.imp fun h => by simpa [ltLn] using h, fun x hx => by simpa using this.1 x hx, h.2⟩
  | some x => rw [hc] at h; simp at h
end Go.AM


namespace Go.AM
open Go.Proofs
set_option linter.unusedVariables false
set_option linter.unusedSimpArgs false
set_option linter.constructorNameAsVariable false
set_option maxRecDepth 20000
theorem good_line {s t : List Gd} {tol : List Int} (hs : rightG s = true) (ht : rightG t = true) (hc : (mergeG s t).any clashG = false) {p : Gd × Gd} (hp : p ∈ mergeG s t) (hz : p.2.alc ≠ 0) : goodLn (lineG tol p) = p.2 := by
  obtain ⟨z1, z2, z3⟩ := zG_z
  have hcl : clashG p = false := by simpa using List.any_eq_false.1 hc p hp
  unfold goodLn lineG
  dsimp only
  rcases merge_pair hs ht hp with ⟨a1, a2, a3⟩ | ⟨a1, a2, a3 | ⟨a3, a4, a5⟩⟩
  · have := badG_bd a3
    have e1 : max p.1.id p.2.id = p.2.id := by rw [a1, z1]; omega
    have e2 : max p.1.cls p.2.cls = p.2.cls := by rw [a1, z2]; omega
    rw [e1, e2]
  · rw [a3] at hz; exact absurd z3 hz
  · have b1 := badG_bd a2
    have b2 := badG_bd a4
    have hcc : p.1.cls = p.2.cls := by
      simp only [clashG, Bool.and_eq_false_iff, decide_eq_false_iff_not, bne_eq_false_iff_eq] at hcl
      rcases hcl with q | q | q
      · omega
      · omega
      · exact q
    have e1 : max p.1.id p.2.id = p.2.id := by rw [a5]; omega
    have e2 : max p.1.cls p.2.cls = p.2.cls := by rw [hcc]; omega
    rw [e1, e2]
section
variable {β : Type}
end
end Go.AM


namespace Go.AM
open Go.Proofs
set_option linter.unusedVariables false
set_option linter.unusedSimpArgs false
set_option linter.constructorNameAsVariable false
set_option maxRecDepth 20000
section
variable {β : Type} {P : Program} {T : Tab} {D : DTab} {N : Nat} {K : AV → Hp → Option β}
section
variable {x0 : AV → AV → Hp → Option β} {x2 : AV → Hp → Option β} {ps : List (AV × List Gd)} {nl : Bool}
theorem Grow_Good_val (n : Nat) (h : Hp) (hn : n < 1000000) : R_slices_Grow_Good [nilS, I n] h = some (if n = 0 then (nilS, h) else (.sl 3 h.length 0 0 n false, h ++ [.arr 3 (List.replicate n [I 0,I 0,I 0]) true false])) := by
  rw [R_slices_Grow_Good_raw]
  have w0 : IntKind.i64.wrap 0 = 0 := wrap64 (by omega) (by omega)
  by_cases h0 : n = 0
  · subst h0
    simp [f_slices_Grow_Good, f_slices_Grow_Good_j1, f_slices_Grow_Good_j2, capK, w0]
  · have h1 : ¬ (n : Int) < 0 := by omega
    have h2 : (0 : Int) < (n : Int) := by omega
    have h3 : (n : Int) * 24 ≤ 140737488355328 := by omega
    have w1 : IntKind.i64.wrap (n : Int) = (n : Int) := wrap64 (by omega) (by omega)
    simp [f_slices_Grow_Good, f_slices_Grow_Good_j1, f_slices_Grow_Good_j2, capK, w0, h0, h1, h2, h3, show 0 < n by omega, w1, sliceK, boundOr, mkE, effK, ap]
theorem Concat_Good_L4 {v0 : AV} {h : Hp} (hp : ∀ p ∈ ps, Part encG h p) (hm : ps.length < 1000000) (ht : total ps < 1000000) : ∀ (n : Nat) (pre post : List (AV × List Gd)), ps = pre ++ post → post.length < n →
    f_slices_Concat_Good_L4 P T D N x0 n v0 (I (total pre)) (.lst 1 nl (ps.map fun p => [p.1])) (I ps.length) (I pre.length) h = x0 v0 (I (total ps)) h := by
  intro n
  induction n with
  | zero => intro pre post _ h; omega
  | succ n ih =>
    intro pre post hc hn
    show f_slices_Concat_Good_b4 P T D N (f_slices_Concat_Good_L4 P T D N x0 n) x0 _ _ _ _ _ h = _
    cases post with
    | nil =>
      have : ps = pre := by simpa using hc
      subst this
      simp [f_slices_Concat_Good_b4]
    | cons p post =>
      have hi : pre.length < ps.length := by rw [hc]; simp
      have hx : ps[pre.length]? = some p := by rw [hc]; simp
      have hlt : ((pre.length : Int) < (ps.length : Int)) := by omega
      have hw : IntKind.i64.wrap ((pre.length : Int) + 1) = (((pre ++ [p]).length : Nat) : Int) := by rw [wrap64 (by omega) (by omega)]; simp
      have htp : total ps = total pre + (p.2.length + total post) := by rw [hc, total_app, total_cons]
      have hw2 : IntKind.i64.wrap ((total pre : Int) + (p.2.length : Int)) = ((total (pre ++ [p]) : Nat) : Int) := by rw [wrap64 (by omega) (by omega), total_snoc]; omega
      have h0 : ¬ ((total (pre ++ [p]) : Nat) : Int) < 0 := by omega
      have hL := fun k => (hp p (List.mem_of_getElem? hx)).lenK (β := β) k
      rw [← ih (pre ++ [p]) post (by simpa using hc) (by simpa using hn)]
      simp [f_slices_Concat_Good_b4, hlt, hx, hL, hw2, h0, f_slices_Concat_Good_j6, f_slices_Concat_Good_j5, hw]
theorem Concat_Good_L3 {h : Hp} (hp : ∀ p ∈ ps, Part encG h p) (hm : ps.length < 1000000) (ht : total ps < 1000000) : ∀ (n : Nat) (pre post : List (AV × List Gd)), ps = pre ++ post → post.length < n →
    f_slices_Concat_Good_L3 P T D N x2 n (.sl 3 h.length 0 ((flat pre).map encG).length (total ps) false) (.lst 1 nl (ps.map fun p => [p.1])) (I ps.length) (I pre.length) (h ++ [.arr 3 ((flat pre).map encG ++ List.replicate (total ps - total pre) [I 0,I 0,I 0]) true false]) =
      x2 (.sl 3 h.length 0 (total ps) (total ps) false) (h ++ [.arr 3 ((flat ps).map encG) true false]) := by
  intro n
  induction n with
  | zero => intro pre post _ h; omega
  | succ n ih =>
    intro pre post hc hn
    show f_slices_Concat_Good_b3 P T D N (f_slices_Concat_Good_L3 P T D N x2 n) x2 _ _ _ _ _ = _
    cases post with
    | nil =>
      have : ps = pre := by simpa using hc
      subst this
      simp [f_slices_Concat_Good_b3, flat_length']
    | cons p post =>
      have hi : pre.length < ps.length := by rw [hc]; simp
      have hx : ps[pre.length]? = some p := by rw [hc]; simp
      have hlt : ((pre.length : Int) < (ps.length : Int)) := by omega
      have hw : IntKind.i64.wrap ((pre.length : Int) + 1) = (((pre ++ [p]).length : Nat) : Int) := by rw [wrap64 (by omega) (by omega)]; simp
      have htp : total ps = total pre + (p.2.length + total post) := by rw [hc, total_app, total_cons]
      have hP := (hp p (List.mem_of_getElem? hx)).app [.arr 3 ((flat pre).map encG ++ List.replicate (total ps - total pre) [I 0,I 0,I 0]) true false]
      have hf := appE_fill (by_ := 24) (sz := 3) (n := total ps) (base := h.length + 1) hP.read (get_new0 h [.arr 3 ((flat pre).map encG ++ List.replicate (total ps - total pre) [I 0,I 0,I 0]) true false]) (by simp [flat_length']; omega) (by simp; omega) (by simp [encG]) (by omega)
      have e1 : ((flat pre).map encG).length + (p.2.map encG).length = ((flat (pre ++ [p])).map encG).length := by rw [flat_snoc]; simp
      have e2 : (flat pre).map encG ++ p.2.map encG ++ (List.replicate (total ps - total pre) [I 0,I 0,I 0]).drop (p.2.map encG).length = (flat (pre ++ [p])).map encG ++ List.replicate (total ps - total (pre ++ [p])) [I 0,I 0,I 0] := by
        rw [flat_snoc, List.map_append, List.drop_replicate, total_snoc, List.length_map, Nat.sub_sub]
      rw [e1, e2] at hf
      rw [← ih (pre ++ [p]) post (by simpa using hc) (by simpa using hn)]
      generalize ((flat pre).map encG).length = k1 at *
      generalize ((flat (pre ++ [p])).map encG).length = k2 at *
      generalize (flat pre).map encG ++ List.replicate (total ps - total pre) [I 0,I 0,I 0] = o1 at *
      generalize (flat (pre ++ [p])).map encG ++ List.replicate (total ps - total (pre ++ [p])) [I 0,I 0,I 0] = o2 at *
      simp [f_slices_Concat_Good_b3, hlt, hx, hf, hw]
theorem Concat_Good_L3_0 {h : Hp} (hp : ∀ p ∈ ps, Part encG h p) (hm : ps.length < 1000000) (ht : total ps = 0) : ∀ (n : Nat) (pre post : List (AV × List Gd)), ps = pre ++ post → post.length < n →
    f_slices_Concat_Good_L3 P T D N x2 n nilS (.lst 1 nl (ps.map fun p => [p.1])) (I ps.length) (I pre.length) h = x2 nilS h := by
  intro n
  induction n with
  | zero => intro pre post _ h; omega
  | succ n ih =>
    intro pre post hc hn
    show f_slices_Concat_Good_b3 P T D N (f_slices_Concat_Good_L3 P T D N x2 n) x2 _ _ _ _ _ = _
    cases post with
    | nil =>
      have : ps = pre := by simpa using hc
      subst this
      simp [f_slices_Concat_Good_b3]
    | cons p post =>
      have hi : pre.length < ps.length := by rw [hc]; simp
      have hx : ps[pre.length]? = some p := by rw [hc]; simp
      have hlt : ((pre.length : Int) < (ps.length : Int)) := by omega
      have hw : IntKind.i64.wrap ((pre.length : Int) + 1) = (((pre ++ [p]).length : Nat) : Int) := by rw [wrap64 (by omega) (by omega)]; simp
      have htp : total ps = total pre + (p.2.length + total post) := by rw [hc, total_app, total_cons]
      have hP := (hp p (List.mem_of_getElem? hx)).read
      have hpe : p.2 = [] := List.eq_nil_of_length_eq_zero (by omega)
      rw [hpe] at hP
      rw [← ih (pre ++ [p]) post (by simpa using hc) (by simpa using hn)]
      simp [f_slices_Concat_Good_b3, hlt, hx, appE, hP, hw]
end
theorem F_slices_Concat_Good_val (ps : List (AV × List Gd)) (nl : Bool) (h : Hp) {x0 : AV} (ha : cvts false h [x0] = some [.lst 1 nl (ps.map fun p => [p.1])]) (hp : ∀ p ∈ ps, (p.1 = nilS ∧ p.2 = []) ∨ ∃ b, p.1 = .lst 3 b (p.2.map encG)) (hm : ps.length < 1000000) (ht : total ps < 1000000) :
    F_slices_Concat_Good [x0] h = some (SL 3 encG (flat ps).isEmpty (flat ps), h) := by
  have hP : ∀ (h : Hp), ∀ p ∈ ps, Part encG h p := fun h p hm => by
    obtain ⟨v, l⟩ := p
    rcases hp _ hm with ⟨e1, e2⟩ | ⟨b, e1⟩
    · dsimp only at e1 e2; subst e1 e2; exact .nil
    · dsimp only at e1; subst e1; exact .lst 3 b l
  have run : ∀ st, f_slices_Concat_Good Try.prog t_slices_Concat_Good d_slices_Concat_Good NN (fun v g => cvt st g v) (nrm (.l 1) (.lst 1 nl (ps.map fun p => [p.1]))) [] = some (if total ps = 0 then nilS else .lst 3 false ((flat ps).map encG)) := by
    intro st
    have l4 := Concat_Good_L4 (P := Try.prog) (T := t_slices_Concat_Good) (D := d_slices_Concat_Good) (N := NN) (x0 := fun w19_0 w19_3 h => f_slices_Concat_Good_j1 Try.prog t_slices_Concat_Good d_slices_Concat_Good NN (fun v g => cvt st g v) w19_0 w19_3 h) (v0 := .lst 1 nl (ps.map fun p => [p.1])) (nl := nl) (hP []) hm ht NN [] ps rfl (by have := NN_ge; omega)
    refine Eq.trans ?_ (l4.trans ?_)
    · simp [f_slices_Concat_Good, total]
    · have g := Grow_Good_val (total ps) [] ht
      by_cases h0 : total ps = 0
      · have l3 := Concat_Good_L3_0 (P := Try.prog) (T := t_slices_Concat_Good) (D := d_slices_Concat_Good) (N := NN) (x2 := fun w11_6 h => f_slices_Concat_Good_j2 Try.prog t_slices_Concat_Good d_slices_Concat_Good NN (fun v g => cvt st g v) w11_6 h) (nl := nl) (hP []) hm h0 NN [] ps rfl (by have := NN_ge; omega)
        rw [if_pos h0] at g ⊢
        simp [f_slices_Concat_Good_j1, g]
        refine Eq.trans ?_ (l3.trans ?_) <;> simp [flat, total, f_slices_Concat_Good_j2]
      · have l3 := Concat_Good_L3 (P := Try.prog) (T := t_slices_Concat_Good) (D := d_slices_Concat_Good) (N := NN) (x2 := fun w11_6 h => f_slices_Concat_Good_j2 Try.prog t_slices_Concat_Good d_slices_Concat_Good NN (fun v g => cvt st g v) w11_6 h) (nl := nl) (hP []) hm ht NN [] ps rfl (by have := NN_ge; omega)
        rw [if_neg h0] at g ⊢
        simp [f_slices_Concat_Good_j1, g]
        refine Eq.trans ?_ (l3.trans ?_)
        · simp [flat, total]
        · have hok : okE st ((flat ps).map encG) = true := okE_map (by intro x; cases st <;> simp [encG, isS])
          simp only [f_slices_Concat_Good_j2]
          exact cvt_whole (by simp) (by simp [flat_length']) (by simp [flat_length']) hok
  refine (F_slices_Concat_Good_own ha run).trans ?_
  by_cases h0 : total ps = 0
  · have : flat ps = [] := List.eq_nil_of_length_eq_zero (by rw [flat_length', h0])
    rw [if_pos h0, this]; rfl
  · have : (flat ps).isEmpty = false := by
      rw [List.isEmpty_eq_false_iff]; intro e; rw [← flat_length', e] at h0; exact h0 rfl
    rw [if_neg h0, this]; rfl
end
theorem sum_cons (x : Int) (l : List Int) : (x :: l).sum = x + l.sum := List.sum_cons
theorem merge_sums (s t : List Gd) : ((mergeG s t).map (·.1.alc)).sum = (s.map (·.alc)).sum ∧ ((mergeG s t).map (·.2.alc)).sum = (t.map (·.alc)).sum := by
  have z : zG.alc = 0 := rfl
  fun_induction mergeG s t with
  | case1 => exact ⟨rfl, rfl⟩
  | case2 a s ih => simp only [List.map_cons, List.sum_cons, List.map_nil, List.sum_nil, z] at ih ⊢; omega
  | case3 b t ih => simp only [List.map_cons, List.sum_cons, List.map_nil, List.sum_nil, z] at ih ⊢; omega
  | case4 a s b t he ih => simp only [List.map_cons, List.sum_cons, z] at ih ⊢; omega
  | case5 a s b t he hlt ih => simp only [List.map_cons, List.sum_cons, z] at ih ⊢; omega
  | case6 a s b t he hlt ih => simp only [List.map_cons, List.sum_cons, z] at ih ⊢; omega
theorem los_sum : ∀ (L : List Ln) (acc : Los), (∀ x ∈ L, x.sent + x.los.su = x.got + x.los.ev + x.los.op + x.los.df ∧ x.los.op = 0) →
    ((losS L).foldl addO acc).su + sentS L + (acc.ev + acc.op + acc.df) = ((losS L).foldl addO acc).ev + ((losS L).foldl addO acc).op + ((losS L).foldl addO acc).df + gotS L + acc.su ∧ ((losS L).foldl addO acc).op = acc.op
  | [], acc, _ => by simp [losS, sentS, gotS]; omega
  | x :: L, acc, h => by
    obtain ⟨i1, i2⟩ := los_sum L (addO acc x.los) fun y hy => h y (by simp [hy])
    obtain ⟨h1, h2⟩ := h x (by simp)
    have e : losS (x :: L) = x.los :: losS L := rfl
    have e1 : sentS (x :: L) = x.sent + sentS L := by simp [sentS]
    have e2 : gotS (x :: L) = x.got + gotS L := by simp [gotS]
    rw [e, List.foldl_cons, e1, e2]
    generalize (losS L).foldl addO (addO acc x.los) = R at *
    simp only [addO] at i1 i2
    omega
theorem good_line1 {s t : List Gd} {tol : List Int} (hs : rightG s = true) (ht : rightG t = true) (hc : (mergeG s t).any clashG = false) {p : Gd × Gd} (hp : p ∈ mergeG s t) (hz : p.1.alc ≠ 0) : (lineG tol p).id = p.1.id ∧ (lineG tol p).cls = p.1.cls := by
  obtain ⟨z1, z2, z3⟩ := zG_z
  have hcl : clashG p = false := by simpa using List.any_eq_false.1 hc p hp
  unfold lineG
  dsimp only
  rcases merge_pair hs ht hp with ⟨a1, a2, a3⟩ | ⟨a1, a2, a3 | ⟨a3, a4, a5⟩⟩
  · rw [a1] at hz; exact absurd z3 hz
  · have := badG_bd a2
    rw [a3, z1, z2]; omega
  · have b1 := badG_bd a2
    have b2 := badG_bd a4
    have hcc : p.1.cls = p.2.cls := by
      simp only [clashG, Bool.and_eq_false_iff, decide_eq_false_iff_not, bne_eq_false_iff_eq] at hcl
      rcases hcl with q | q | q
      · omega
      · omega
      · exact q
    omega
def isLn (g : Gd) (y : Ln) : Bool := y.id == g.id && y.cls == g.cls
theorem has_line {s t : List Gd} {tol : List Int} (hs : rightG s = true) (ht : rightG t = true) (hc : (mergeG s t).any clashG = false) : ∀ g ∈ s ++ t, ((mergeG s t).map (lineG tol)).any (isLn g) = true := by
  obtain ⟨-, s1, s2⟩ := right_all hs
  obtain ⟨-, t1, t2⟩ := right_all ht
  obtain ⟨m1, m2, m3, m4⟩ := merge_spec s t s1 t1 (fun g hg => (s2 g hg).1) (fun g hg => (t2 g hg).1)
  intro g hg
  rw [List.any_eq_true]
  rcases List.mem_append.1 hg with hg | hg
  · have hm := m3 g hg
    have e := find_mem s1 hg
    rw [e] at hm
    have := (s2 g hg).2.2
    obtain ⟨q1, q2⟩ := good_line1 (tol := tol) hs ht hc hm (by show g.alc ≠ 0; omega)
    exact ⟨_, List.mem_map.2 ⟨_, hm, rfl⟩, by simp [isLn, q1, q2]⟩
  · have hm := m4 g hg
    have e := find_mem t1 hg
    rw [e] at hm
    have := (t2 g hg).2.2
    have q := good_line (tol := tol) hs ht hc hm (by show g.alc ≠ 0; omega)
    refine ⟨_, List.mem_map.2 ⟨_, hm, rfl⟩, ?_⟩
    generalize lineG tol (findG s g.id, g) = y at *
    dsimp only at q
    rw [← q]
    simp [isLn, goodLn]
def sumG (l : List Gd) : Int := (l.map (·.alc)).sum
theorem law_sum_L2 {β : Type} {T : Tab} {D : DTab} {N : Nat} {x0 : AV → Hp → Option β} {X : Int → Option β} (hx : ∀ n h, x0 (I n) h = X n) (l : List Gd) (b : Bool) (hl : l.length < 1000) (hb : ∀ g ∈ l, 0 ≤ g.alc ∧ g.alc ≤ 10737418240000) :
    ∀ (n : Nat) (pre post : List Gd) (h : Hp), l = pre ++ post → post.length < n → 0 ≤ sumG pre ∧ sumG pre ≤ 10737418240000 * pre.length → f_law44_sum_L2 Try.prog T D N x0 n (I (sumG pre)) (.lst 3 b (l.map encG)) (I l.length) (I pre.length) h = X (sumG l) := by
  intro n
  induction n with
  | zero => intro pre post h _ h2; omega
  | succ n ih =>
    intro pre post h hc hn hs
    show f_law44_sum_b2 Try.prog T D N (f_law44_sum_L2 Try.prog T D N x0 n) x0 _ _ _ _ h = _
    cases post with
    | nil =>
      have : l = pre := by simpa using hc
      subst this
      simp [f_law44_sum_b2, hx]
    | cons c post =>
      have hi : pre.length < l.length := by rw [hc]; simp
      have hci : l[pre.length]? = some c := by rw [hc]; simp
      have hlt : ((pre.length : Int) < (l.length : Int)) := by omega
      have hw : IntKind.i64.wrap ((pre.length : Int) + 1) = (((pre ++ [c]).length : Nat) : Int) := by rw [wrap64 (by omega) (by omega)]; simp
      have hcb := hb c (by rw [hc]; simp)
      have es : sumG (pre ++ [c]) = sumG pre + c.alc := by simp [sumG]
      have ws : IntKind.i64.wrap (sumG pre + c.alc) = sumG (pre ++ [c]) := by rw [es]; exact wrap64 (by omega) (by omega)
      have ic : ∀ k : Go.AM.K β, iaK 3 (.lst 3 b (l.map encG)) (I pre.length) k = k (.ep (encG c) 0) := fun k => iaK_at pre.length rfl hci k
      have step := fun h => ih (pre ++ [c]) post h (by simpa using hc) (by simpa using hn) (by rw [es, List.length_append]; simp; omega)
      simp only [f_law44_sum_b2, arithK_lss, hlt, decide_true, condK_bool, if_true, ic]
      clear hc ih hci ic
      generalize pre.length = pl at *
      obtain ⟨i, cl, a⟩ := c
      simp only [encG] at *
      generalize l.map encG = L at *
      simp [boxE, stE, ap, ws, hw] at hw ⊢
      simpa [hw] using step _
theorem F_law44_sum_val (l : List Gd) (b : Bool) (hl : l.length < 1000) (hb : ∀ g ∈ l, 0 ≤ g.alc ∧ g.alc ≤ 10737418240000) (h : Hp) : F_law44_sum [.lst 3 b (l.map encG)] h = some (I (sumG l), h) := by
  refine F_law44_sum_run rfl ?_ h
  have := law_sum_L2 (T := t_law44_sum) (D := d_law44_sum) (N := NN) (x0 := fun w13_3 h => f_law44_sum_j1 Try.prog t_law44_sum d_law44_sum NN (fun v g => cvt false g v) w13_3 h) (X := fun n => some (I n)) (fun n h => rfl) l b hl hb NN [] l [] rfl (by have := NN_ge; omega) (by simp [sumG])
  simpa [f_law44_sum, sumG] using this
theorem F_closes_1_val (y : Ln) (g : Gd) (m : Nat) (h : Hp) (hm : h[m]? = some (.arr 3 [encG g] true false)) : F_law44_ReceiptCloses_1 [.agg (encLn y), .ptr m 0 0 1] h = some (B (isLn g y), h) := by
  have hml := (List.getElem?_eq_some_iff.1 hm).1
  have hm' := fun g : List AObj => get_app (g := g) hm
  refine F_law44_ReceiptCloses_1_q (g := [.arr 8 [encLn y] true false]) ?_ rfl
  obtain ⟨i, c, s, gt, ⟨e, o, d, u⟩⟩ := y
  obtain ⟨gi, gc, ga⟩ := g
  simp only [encG] at hm'
  simp [f_law44_ReceiptCloses_1, encLn, boxE, ap, hm', isLn]
theorem F_closes_Contains (l : List Ln) (b : Bool) (hl : l.length < 1000) (g : Gd) (m : Nat) (h : Hp) (hm : h[m]? = some (.arr 3 [encG g] true false)) : F_slices_ContainsFunc_Line__law44_ReceiptCloses_1 [.lst 8 b (l.map encLn), .fn 28 [.ptr m 0 0 1]] h = some (B (l.any (isLn g)), h) := by
  have e : F_slices_IndexFunc_Line__law44_ReceiptCloses_1 [.lst 8 b (l.map encLn), .fn 28 [.ptr m 0 0 1]] h = some (I (match l.findIdx? (isLn g) with | some j => (j : Int) | none => -1), h) := by
    refine F_slices_IndexFunc_Line__law44_ReceiptCloses_1_q (g := []) ?_ rfl
    rw [IndexFunc_Line_K (p := isLn g) (by have := NN_ge; omega) NN_lt (fun x _ k => by simp [F_closes_1_val x g m h hm]), List.append_nil]
    try rfl
  refine F_slices_ContainsFunc_Line__law44_ReceiptCloses_1_q (g := []) ?_ rfl
  simp only [f_slices_ContainsFunc_Line, t_slices_ContainsFunc_Line__law44_ReceiptCloses_1_46, callK_F, e]
  have : l.any (isLn g) = (l.findIdx? (isLn g)).isSome := by rw [List.findIdx?_isSome]
  rw [this]
  cases l.findIdx? (isLn g) <;> simp
theorem Closes_L4 {T : Tab} {D : DTab} {N : Nat} {x0 : AV → AV → Hp → Option AV} {xr : AV → Hp → Option AV} {X : Option AV} {o : AObj} {v1 : AV} (l : List Ln) (b : Bool) (hl : l.length < 1000) (hs : sLn l) (hx : ∀ t, x0 v1 (.lst 8 b (l.map encLn)) (o :: t) = X) :
    ∀ (n : Nat) (pre post : List Ln) (t : Hp), l = pre ++ post → post.length < n → f_law44_ReceiptCloses_L4 Try.prog T D N x0 xr n v1 (.lst 8 b (l.map encLn)) (.lst 8 b (l.map encLn)) (I l.length) (I pre.length) (o :: t) = X := by
  intro n
  induction n with
  | zero => intro pre post t _ h2; omega
  | succ n ih =>
    intro pre post t hc hn
    show f_law44_ReceiptCloses_b4 Try.prog T D N (f_law44_ReceiptCloses_L4 Try.prog T D N x0 xr n) x0 xr _ _ _ _ _ _ = _
    cases post with
    | nil =>
      have : l = pre := by simpa using hc
      subst this
      simp [f_law44_ReceiptCloses_b4, hx]
    | cons c post =>
      have hi : pre.length < l.length := by rw [hc]; simp
      have hci : l[pre.length]? = some c := by rw [hc]; simp
      have hlt : ((pre.length : Int) < (l.length : Int)) := by omega
      have hw : IntKind.i64.wrap ((pre.length : Int) + 1) = (((pre ++ [c]).length : Nat) : Int) := by rw [wrap64 (by omega) (by omega)]; simp
      have ic : ∀ k : Go.AM.K AV, iaK 8 (.lst 8 b (l.map encLn)) (I pre.length) k = k (.ep (encLn c) 0) := fun k => iaK_at pre.length rfl hci k
      have step := fun t => ih (pre ++ [c]) post t (by simpa using hc) (by simpa using hn)
      simp only [f_law44_ReceiptCloses_b4, arithK_lss, hlt, decide_true, condK_bool, if_true, ic]
      rcases List.eq_nil_or_concat pre with rfl | ⟨pre', q, hq⟩
      · have w1 : IntKind.i64.wrap 1 = 1 := wrap64 (by omega) (by omega)
        clear ih hc hci ic
        obtain ⟨i, cl, s, gt, ⟨e, o', d, u⟩⟩ := c
        simp only [encLn]
        generalize l.map encLn = L at *
        simp [boxE, stE, ap, w1]
        simpa using step _
      · have hq : pre = pre' ++ [q] := by rw [hq]; simp
        have hqi : l[pre'.length]? = some q := by rw [hc, hq]; simp
        have hqc : q.id < c.id := by
          have h1 := List.getElem?_eq_some_iff.1 hqi
          have h2 := List.getElem?_eq_some_iff.1 hci
          have := List.pairwise_iff_getElem.1 hs pre'.length pre.length h1.1 h2.1 (by rw [hq]; simp)
          rw [h1.2, h2.2] at this
          exact this
        have hpl : (pre.length : Int) = (pre'.length : Int) + 1 := by rw [hq]; simp
        have iq : ∀ k : Go.AM.K AV, iaK 8 (.lst 8 b (l.map encLn)) (I pre'.length) k = k (.ep (encLn q) 0) := fun k => iaK_at pre'.length rfl hqi k
        have h0 : (0 : Int) < pre.length := by omega
        have w2 : IntKind.i64.wrap ((pre.length : Int) - 1) = (pre'.length : Int) := by rw [wrap64 (by omega) (by omega)]; omega
        have hnc : ¬ c.id ≤ q.id := by omega
        clear ih hc hci ic hq hqi
        generalize pre.length = pl at *
        obtain ⟨i, cl, s, gt, ⟨e, o', d, u⟩⟩ := c
        obtain ⟨i', cl', s', gt', ⟨e', o'', d', u'⟩⟩ := q
        simp only [encLn] at *
        generalize l.map encLn = L at *
        simp [boxE, stE, ap, h0, w2, iq, hnc, hw]
        simpa using step _
theorem Closes_L3 {D : DTab} {N : Nat} {x2 : AV → AV → Hp → Option AV} {xr : AV → Hp → Option AV} {X : Option AV} {o : AObj} {v1 : AV} (l : List Ln) (b : Bool) (hl : l.length < 1000) (gs : List Gd) (bg : Bool) (hgl : gs.length < 1000) (hg : ∀ g ∈ gs, l.any (isLn g) = true) (hx : ∀ t, x2 v1 (.lst 8 b (l.map encLn)) (o :: t) = X) :
    ∀ (n : Nat) (pre post : List Gd) (t : Hp), gs = pre ++ post → post.length < n → f_law44_ReceiptCloses_L3 Try.prog t_law44_ReceiptCloses D N x2 xr n v1 (.lst 8 b (l.map encLn)) (.lst 3 bg (gs.map encG)) (I gs.length) (I pre.length) (o :: t) = X := by
  intro n
  induction n with
  | zero => intro pre post t _ h2; omega
  | succ n ih =>
    intro pre post t hc hn
    show f_law44_ReceiptCloses_b3 Try.prog t_law44_ReceiptCloses D N (f_law44_ReceiptCloses_L3 Try.prog t_law44_ReceiptCloses D N x2 xr n) x2 xr _ _ _ _ _ _ = _
    cases post with
    | nil =>
      have : gs = pre := by simpa using hc
      subst this
      simp [f_law44_ReceiptCloses_b3, hx]
    | cons c post =>
      have hi : pre.length < gs.length := by rw [hc]; simp
      have hci : gs[pre.length]? = some c := by rw [hc]; simp
      have hlt : ((pre.length : Int) < (gs.length : Int)) := by omega
      have hw : IntKind.i64.wrap ((pre.length : Int) + 1) = (((pre ++ [c]).length : Nat) : Int) := by rw [wrap64 (by omega) (by omega)]; simp
      have ic : ∀ k : Go.AM.K AV, iaK 3 (.lst 3 bg (gs.map encG)) (I pre.length) k = k (.ep (encG c) 0) := fun k => iaK_at pre.length rfl hci k
      have step := fun t => ih (pre ++ [c]) post t (by simpa using hc) (by simpa using hn)
      have fc := F_closes_Contains l b hl c (t.length + 1) (o :: (t ++ [.arr 3 [encG c] true false])) (by simp)
      rw [hg c (by rw [hc]; simp)] at fc
      simp only [f_law44_ReceiptCloses_b3, arithK_lss, hlt, decide_true, condK_bool, if_true, ic]
      clear ih hc hci ic hg
      obtain ⟨i, cl, a⟩ := c
      simp only [encG] at *
      generalize l.map encLn = L at *
      generalize gs.map encG = G at *
      simp [boxE, stE, ap, fc, hw] at hw ⊢
      simpa [hw] using step _
set_option maxHeartbeats 4000000 in
theorem closes44_law (p : Prc) : F_law44_ReceiptCloses [.agg (encPr p)] [] = some (B true, []) := by
  refine F_law44_ReceiptCloses_run (a0 := .agg (encPr p)) (by simp [encPr]) ?_ []
  simp only [nrm, nrmC, SL]
  have l1 : ∀ k : Go.AM.K AV, lenK (.lst 3 (p.b1 && p.sent.isEmpty) (p.sent.map encG)) k = k (I p.sent.length) := fun k => by simp
  have l2 : ∀ k : Go.AM.K AV, lenK (.lst 3 (p.b2 && p.got.isEmpty) (p.got.map encG)) k = k (I p.got.length) := fun k => by simp
  have l3 : ∀ k : Go.AM.K AV, lenK (.lst 1 (p.b3 && p.tol.isEmpty) (p.tol.map encI)) k = k (I p.tol.length) := fun k => by simp
  obtain ⟨e1, he1⟩ : ∃ e, decide ((12 : Int) < (p.sent.length : Int)) = e := ⟨_, rfl⟩
  obtain ⟨e2, he2⟩ : ∃ e, decide ((12 : Int) < (p.got.length : Int)) = e := ⟨_, rfl⟩
  obtain ⟨e3, he3⟩ : ∃ e, decide ((12 : Int) < (p.tol.length : Int)) = e := ⟨_, rfl⟩
  cases hq : (e1 || e2 || e3) with
  | true =>
    simp only [encPr, SL]
    generalize p.sent.map encG = S at *
    generalize p.got.map encG = G at *
    generalize p.tol.map encI = TT at *
    cases e1 <;> cases e2 <;> cases e3 <;> simp at hq <;> simp [f_law44_ReceiptCloses, F_law44_awake_val, boxE, l1, l2, l3, he1, he2, he3]
  | false =>
    simp only [Bool.or_eq_false_iff] at hq
    obtain ⟨⟨rfl, rfl⟩, rfl⟩ := hq
    have k1 : p.sent.length < 1000 := by simp at he1; omega
    have k2 : p.got.length < 1000 := by simp at he2; omega
    have k3 : p.tol.length < 1000 := by simp at he3; omega
    have c1 := F_law44_compare_val p k1 k2 k3
    rw [show cmpP p = cmpS p.sent p.got p.tol from rfl] at c1
    have cln := cmpS_len p.sent p.got p.tol
    by_cases h0 : (cmpS p.sent p.got p.tol).2 = 0
    · obtain ⟨s1, s2, s3, s4, s5, s6⟩ := cmp_ok h0
      have hls := cmp_lines h0
      obtain ⟨hsl, hok, -⟩ := lines_sorted hls
      have hop : ∀ x ∈ (cmpS p.sent p.got p.tol).1, x.sent + x.los.su = x.got + x.los.ev + x.los.op + x.los.df ∧ x.los.op = 0 := fun x hx => by
        refine ⟨?_, ?_⟩
        · have := hok x hx
          simp [okLn, sumLn] at this
          omega
        · rw [s6] at hx
          obtain ⟨q, hq, rfl⟩ := List.mem_map.1 hx
          exact (line_ok s1 s2 s3 hq).2
      have ls := los_sum _ zeroO hop
      obtain ⟨ms1, ms2⟩ := merge_sums p.sent p.got
      have es : sentS (cmpS p.sent p.got p.tol).1 = sumG p.sent := by rw [s6]; unfold sentS sumG; rw [List.map_map, ← ms1]; rfl
      have eg : gotS (cmpS p.sent p.got p.tol).1 = sumG p.got := by rw [s6]; unfold gotS sumG; rw [List.map_map, ← ms2]; rfl
      rw [es, eg] at ls
      have hal := has_line (tol := p.tol) s1 s2 s4
      rw [← s6] at hal
      rw [h0] at c1
      have c2 := F_slices_Clone_Line_val (cmpS p.sent p.got p.tol).1 (cmpS p.sent p.got p.tol).1.isEmpty (by omega)
      rw [SL, Bool.and_self] at c2
      have t1 := F_receipt_Total_val (cmpS p.sent p.got p.tol).1 (cmpS p.sent p.got p.tol).1.isEmpty (by omega)
      have q1 := F_law44_sum_val p.sent (p.b1 && p.sent.isEmpty) k1 (fun g hg => by have := badG_bd ((rightG_spec s1).2.1 g hg); omega)
      have q2 := F_law44_sum_val p.got (p.b2 && p.got.isEmpty) k2 (fun g hg => by have := badG_bd ((rightG_spec s2).2.1 g hg); omega)
      have tt : (totalLn (cmpS p.sent p.got p.tol).1).2 = 15 ∨ (∃ lo : Los, totalLn (cmpS p.sent p.got p.tol).1 = ((sumG p.sent, sumG p.got, lo), 0) ∧ (0 ≤ sumG p.sent ∧ sumG p.sent ≤ 10737418240000) ∧ (0 ≤ sumG p.got ∧ sumG p.got ≤ 10737418240000) ∧ okO lo = true ∧ lo.su + sumG p.sent = lo.ev + lo.op + lo.df + sumG p.got ∧ lo.op = 0) := by
        have hp : ∀ m : List Gd, (∀ g ∈ m, badG g = false) → 0 ≤ sumG m := by
          intro m
          induction m with
          | nil => intro _; simp [sumG]
          | cons g m ih =>
            intro h
            have := ih fun x hx => h x (by simp [hx])
            have := badG_bd (h g (by simp))
            simp [sumG] at *
            omega
        have p1 := hp p.sent (rightG_spec s1).2.1
        have p2 := hp p.got (rightG_spec s2).2.1
        unfold totalLn
        rw [hls, if_neg (by simp), es, eg]
        split
        · left; rfl
        · rename_i hn
          right
          simp only [not_or, Decidable.not_not, Int.not_lt] at hn
          have hsum : sumOS (losS (cmpS p.sent p.got p.tol).1) = (sumO (losS (cmpS p.sent p.got p.tol).1), 0) ∧ okO (sumO (losS (cmpS p.sent p.got p.tol).1)) = true := by
            have h1 := hn.1
            unfold sumOS at h1 ⊢
            split at h1
            · simp at h1
            · rename_i a1
              split at h1
              · simp at h1
              · rename_i a2
                split at h1
                · simp at h1
                · rename_i a3
                  rw [if_neg a1, if_neg a2, if_neg a3]
                  exact ⟨rfl, by simpa using a3⟩
          refine ⟨_, by rw [hsum.1], ⟨p1, hn.2.1⟩, ⟨p2, hn.2.2⟩, hsum.2, ?_, ?_⟩
          · have := ls.1
            simp only [zeroO] at this
            show (sumO _).su + _ = (sumO _).ev + (sumO _).op + (sumO _).df + _
            unfold sumO
            simp only [zeroO]
            omega
          · have := ls.2
            simp only [zeroO] at this
            unfold sumO
            simp only [zeroO]
            exact this
      clear es eg ms1 ms2 ls hop hok s6 s1 s2 s3 s4 s5 hls
      generalize (cmpS p.sent p.got p.tol).1 = LL at *
      have j2 : ∀ t, f_law44_ReceiptCloses_j2 Try.prog t_law44_ReceiptCloses d_law44_ReceiptCloses NN (fun v g => cvt false g v) (.ptr 0 0 0 1) (.lst 8 LL.isEmpty (LL.map encLn)) (.arr 3 [encPr p] true false :: t) = some (B true) := by
        intro t
        rcases tt with tt | ⟨⟨a, b', c, d⟩, tt, u1, u2, u3, u4, u5⟩
        · generalize totalLn LL = tl at *
          obtain ⟨⟨x, y, ⟨e, o, d, u⟩⟩, er⟩ := tl
          dsimp only at tt t1
          subst tt
          simp only [encO] at t1
          simp only [encPr]
          generalize LL.map encLn = L at *
          simp [f_law44_ReceiptCloses_j2, c2, t1, boxE, stE, ap]
        · rw [tt] at t1
          have ub := okO_bd u3
          simp only [encO] at t1
          dsimp only at u4 u5 ub
          subst u5
          have w1 : IntKind.i64.wrap (sumG p.sent + d) = sumG p.sent + d := wrap64 (by omega) (by omega)
          have w2 : IntKind.i64.wrap (sumG p.got + a) = sumG p.got + a := wrap64 (by omega) (by omega)
          have w3 : IntKind.i64.wrap (sumG p.got + a + c) = sumG p.got + a + c := wrap64 (by omega) (by omega)
          have w4 : sumG p.sent + d = sumG p.got + a + c := by omega
          simp only [encPr, SL]
          generalize LL.map encLn = L at *
          generalize p.sent.map encG = S at *
          generalize p.got.map encG = G at *
          generalize p.tol.map encI = TT at *
          simp [f_law44_ReceiptCloses_j2, c2, t1, boxE, stE, ap, q1, q2, w1, w2, w3, w4]
          try simp [w3]
      have j1 : ∀ t, f_law44_ReceiptCloses_j1 Try.prog t_law44_ReceiptCloses d_law44_ReceiptCloses NN (fun v g => cvt false g v) (.ptr 0 0 0 1) (.lst 8 LL.isEmpty (LL.map encLn)) (.arr 3 [encPr p] true false :: t) = some (B true) := by
        intro t
        have L3 := fun bg t => Closes_L3 (D := d_law44_ReceiptCloses) (N := NN) (x2 := fun w102_1 w102_3 h => f_law44_ReceiptCloses_j2 Try.prog t_law44_ReceiptCloses d_law44_ReceiptCloses NN (fun v g => cvt false g v) w102_1 w102_3 h) (xr := fun w103_2 h => cvt false h w103_2) (v1 := .ptr 0 0 0 1) LL LL.isEmpty (by omega) (p.sent ++ p.got) bg (by rw [List.length_append]; simp at he1 he2; omega) hal j2 NN [] (p.sent ++ p.got) t rfl (by have := NN_ge; rw [List.length_append]; omega)
        have cc := fun H hH => F_slices_Concat_Good_val [((.lst 3 (p.b1 && p.sent.isEmpty) (p.sent.map encG) : AV), p.sent), (.lst 3 (p.b2 && p.got.isEmpty) (p.got.map encG), p.got)] false H (x0 := .sl 1 (t.length + 1) 0 2 2 true) hH (fun q hq => by simp only [List.mem_cons, List.not_mem_nil, or_false] at hq; rcases hq with rfl | rfl <;> exact .inr ⟨_, rfl⟩) (by simp) (by simp [total]; omega)
        rw [show flat [((.lst 3 (p.b1 && p.sent.isEmpty) (p.sent.map encG) : AV), p.sent), (.lst 3 (p.b2 && p.got.isEmpty) (p.got.map encG), p.got)] = p.sent ++ p.got by simp [flat]] at cc
        have lc : ∀ k : Go.AM.K AV, lenK (SL 3 encG (p.sent ++ p.got).isEmpty (p.sent ++ p.got)) k = k (I (p.sent ++ p.got).length) := fun k => by simp
        simp only [SL, Bool.and_self] at cc lc
        have cc' := cc (.arr 3 [encPr p] true false :: (t ++ [.arr 1 [[.lst 3 (p.b1 && p.sent.isEmpty) (p.sent.map encG)], [.lst 3 (p.b2 && p.got.isEmpty) (p.got.map encG)]] true false])) (by simp [cvts, cvt, cvtE, cvtCs, cvtC, cvt1, okE, plain])
        clear cc j2 hal t1 tt c1 c2 q1 q2
        generalize LL.map encLn = L at *
        generalize (p.sent ++ p.got).map encG = SG at *
        generalize (p.sent ++ p.got).isEmpty = zz at *
        generalize (p.sent ++ p.got).length = sgl at *
        simp only [encPr, SL] at cc' L3 ⊢
        generalize p.sent.map encG = S at *
        generalize p.got.map encG = G at *
        generalize p.tol.map encI = TT at *
        simp [f_law44_ReceiptCloses_j1, bsE, fillS, ap, cc', lc]
        exact L3 _ _
      have L4 := fun t => Closes_L4 (T := t_law44_ReceiptCloses) (D := d_law44_ReceiptCloses) (N := NN) (x0 := fun w123_1 w123_3 h => f_law44_ReceiptCloses_j1 Try.prog t_law44_ReceiptCloses d_law44_ReceiptCloses NN (fun v g => cvt false g v) w123_1 w123_3 h) (xr := fun w124_2 h => cvt false h w124_2) (v1 := .ptr 0 0 0 1) LL LL.isEmpty (by omega) hsl j1 NN [] LL t rfl (by have := NN_ge; omega)
      have lL : ∀ k : Go.AM.K AV, lenK (.lst 8 LL.isEmpty (LL.map encLn)) k = k (I LL.length) := fun k => by simp
      clear j1 j2 hal tt q1 q2 t1 c2
      generalize LL.map encLn = L at *
      generalize LL.isEmpty = z1 at *
      simp only [encPr, SL] at c1 L4 ⊢
      generalize p.sent.map encG = S at *
      generalize p.got.map encG = G at *
      generalize p.tol.map encI = TT at *
      simp [f_law44_ReceiptCloses, F_law44_awake_val, boxE, l1, l2, l3, he1, he2, he3, c1, lL]
      exact L4 _
    · have ho := cmp_err h0
      have h0' : ((cmpS p.sent p.got p.tol).2 == 0) = false := by simpa using h0
      rw [ho] at c1
      clear ho h0 cln
      generalize (cmpS p.sent p.got p.tol).2 = er at *
      simp only [encPr, SL] at c1 ⊢
      generalize p.sent.map encG = S at *
      generalize p.got.map encG = G at *
      generalize p.tol.map encI = TT at *
      simp [f_law44_ReceiptCloses, F_law44_awake_val, boxE, l1, l2, l3, he1, he2, he3, c1, h0']
end Go.AM

