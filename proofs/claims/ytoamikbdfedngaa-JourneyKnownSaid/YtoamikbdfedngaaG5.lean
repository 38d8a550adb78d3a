import Derived.Test.YtoamikbdfedngaaG4
import Derived.Below
import Derived.ChangeOld
import Derived.Carry
import Derived.OpenShut
set_option linter.unusedSectionVars false
set_option linter.unusedVariables false
set_option linter.unusedSimpArgs false
set_option linter.constructorNameAsVariable false
namespace Go.AM
open Go.Proofs
set_option linter.unusedVariables false
set_option linter.unusedSimpArgs false
set_option linter.constructorNameAsVariable false
set_option maxRecDepth 20000
noncomputable def rateOn (l : List Allow) (cls day : Int) : Int := match versionL l day with
  | none => 0
  | some v => rateAt l v cls (Cal.monthOf day)
theorem rateAt_bd {l : List Allow} (h : ∀ a ∈ l, badA a = false) (v cls mon : Int) : 0 ≤ rateAt l v cls mon ∧ rateAt l v cls mon ≤ 10000 := by
  unfold rateAt
  cases hf : l.find? (fun a => decide (a.frm = v ∧ a.cls = cls ∧ a.mon = mon)) with
  | none => simp
  | some a => have := badA_bd (h a (List.mem_of_find?_eq_some hf)); exact ⟨this.2.2.2.1, this.2.2.2.2⟩
theorem rateOn_bd {l : List Allow} (h : ∀ a ∈ l, badA a = false) (cls day : Int) : 0 ≤ rateOn l cls day ∧ rateOn l cls day ≤ 10000 := by
  unfold rateOn
  cases versionL l day with
  | none => simp
  | some v => exact rateAt_bd h _ _ _
def change (l : List Allow) (day u : Int) : Int := match l[upto l day]? with
  | some a => min u a.frm
  | none => u
theorem upto_same {l : List Allow} (hs : l.Pairwise (fun a b => ltA a b = true)) {day e : Int} (h1 : day ≤ e) (h2 : ∀ a, l[upto l day]? = some a → e < a.frm) : upto l e = upto l day := by
  have hd := upto_le l day
  have he := upto_le l e
  have key : ∀ j, j < l.length → (j < upto l e ↔ j < upto l day) := by
    intro j hj
    have ha := List.getElem?_eq_getElem hj
    have g1 := upto_get hs day ha
    have g2 := upto_get hs e ha
    constructor
    · intro hlt
      rw [decide_eq_true hlt] at g2
      have g2 := of_decide_eq_true g2
      rcases Nat.lt_or_ge j (upto l day) with h | h
      · exact h
      · exfalso
        have hu : upto l day < l.length := by omega
        have hb := h2 _ (List.getElem?_eq_getElem hu)
        have : l[upto l day].frm ≤ l[j].frm := by
          rcases Nat.lt_or_ge (upto l day) j with q | q
          · exact ltA_frm ((List.pairwise_iff_getElem.1 hs) _ _ hu hj q)
          · have : upto l day = j := by omega
            simp [this]
        omega
    · intro hlt
      rw [decide_eq_true hlt] at g1
      have g1 := of_decide_eq_true g1
      rw [decide_eq_true (by omega)] at g2
      exact of_decide_eq_true g2.symm
  rcases Nat.lt_trichotomy (upto l e) (upto l day) with h | h | h
  · have := (key (upto l e) (by omega)).2 h; omega
  · exact h
  · have := (key (upto l day) (by omega)).1 h; omega
theorem upto_lt_frm {l : List Allow} (hs : l.Pairwise (fun a b => ltA a b = true)) {day : Int} {a : Allow} (h : l[upto l day]? = some a) : day < a.frm := by
  have := upto_get hs day h
  simp at this
  omega
section
variable {β : Type} {P : Program} {T : Tab} {D : DTab} {N : Nat} {K : AV → Hp → Option β}
theorem F_season_on_val (l : List Allow) (b : Bool) (cls day : Int) (hs : l.Pairwise (fun a b => ltA a b = true)) (hg : ∀ a ∈ l, badA a = false) (hl : l.length < 1000000) (h0 : 0 ≤ day) (h1 : day ≤ 100000) :
    ∃ u, day < u ∧ u ≤ 100001 ∧ (∀ e, day ≤ e → e < u → rateOn l cls e = rateOn l cls day) ∧ ∀ h, F_season_on [.lst 4 b (l.map encA), I cls, I day] h = some (.tup [I (rateOn l cls day), I u], h) := by
  obtain ⟨y, m, d, hi, hD⟩ := F_calendar_Date_val day h0 h1
  have hm := hi.month
  have hy := hi.year_le h1
  have hyl := hi.year
  have hny : 1900 ≤ Cal.ny y m ∧ Cal.ny y m ≤ 2200 := by have := hi.year; unfold Cal.ny; split <;> omega
  have hnm := Cal.nm_bd hm.1 hm.2
  have hday := F_calendar_Day_val (Cal.ny y m) (Cal.nm m) hny.1 hny.2 hnm.1 hnm.2
  have hmo := hi.month_eq h0
  have hlt := hi.next_lt
  obtain ⟨u0, hu0⟩ : ∃ u0, u0 = if Cal.dn (Cal.ny y m) (Cal.nm m) ≤ 100000 then Cal.dn (Cal.ny y m) (Cal.nm m) else 100001 := ⟨_, rfl⟩
  have hu0l : day < u0 ∧ u0 ≤ 100001 ∧ u0 ≤ Cal.dn (Cal.ny y m) (Cal.nm m) := by rw [hu0]; split <;> omega
  refine ⟨change l day u0, ?_, ?_, ?_, fun h => F_season_on_run rfl ?_ h⟩
  · unfold change
    cases ha : l[upto l day]? with
    | none => exact hu0l.1
    | some a => have := upto_lt_frm hs ha; simp only; omega
  · unfold change
    cases ha : l[upto l day]? with
    | none => exact hu0l.2.1
    | some a => simp only; omega
  · intro e he1 he2
    have hem : Cal.monthOf e = m := hi.same h0 he1 (by
      have : change l day u0 ≤ u0 := by unfold change; cases l[upto l day]? <;> simp only <;> omega
      omega)
    have hue : upto l e = upto l day := upto_same hs he1 (fun a ha => by
      unfold change at he2
      rw [ha] at he2
      simp only at he2
      omega)
    unfold rateOn versionL
    rw [hem, hmo, hue]
  · -- the run
    obtain ⟨H, hH⟩ : ∃ H : Hp, H = [.arr 1 [[.lst 4 b (l.map encA)]] true false, .arr 1 [[I day]] true false, .arr 3 [[I y, I m, I d]] true false, .arr 3 [[I (Cal.ny y m), I (Cal.nm m), I 1]] true false] := ⟨_, rfl⟩
    have g0 : H[0]? = some (.arr 1 [[.lst 4 b (l.map encA)]] true false) := by rw [hH]; rfl
    have g1 : H[1]? = some (.arr 1 [[I day]] true false) := by rw [hH]; rfl
    have g2 : H[2]? = some (.arr 3 [[I y, I m, I d]] true false) := by rw [hH]; rfl
    have g3 : H[3]? = some (.arr 3 [[I (Cal.ny y m), I (Cal.nm m), I 1]] true false) := by rw [hH]; rfl
    have fs := F_Search_on l b day hs hl 0 1 g0 g1
    have fv := F_season_version_val l b day hs hl
    have fr := fun v => F_season_rate_val l b v cls m hs hl
    have hj3 : ∀ w : Int, f_season_on_j3 Try.prog t_season_on d_season_on NN (fun v g => cvt false g v) (I cls) (.ptr 0 0 0 1) (.ptr 1 0 0 1) (.ptr 2 0 0 1) (I w) H = some (.tup [I (rateOn l cls day), I w]) := by
      intro w
      unfold rateOn
      rw [hmo]
      cases hv : versionL l day with
      | none => rw [hv] at fv; simp [f_season_on_j3, g0, g1, fv]
      | some v => rw [hv] at fv; simp [f_season_on_j3, g0, g1, g2, fv, fr]
    have hj2 : f_season_on_j2 Try.prog t_season_on d_season_on NN (fun v g => cvt false g v) (I cls) (.ptr 0 0 0 1) (.ptr 1 0 0 1) (.ptr 2 0 0 1) (I u0) H = some (.tup [I (rateOn l cls day), I (change l day u0)]) := by
      unfold change
      by_cases hc : upto l day < l.length
      · obtain ⟨a, ha⟩ : ∃ a, l[upto l day]? = some a := ⟨_, List.getElem?_eq_getElem hc⟩
        have hc' : (upto l day : Int) < (l.length : Int) := by omega
        have i1 : ∀ k : Go.AM.K AV, iaK 4 (.lst 4 b (l.map encA)) (I (upto l day : Nat)) k = k (.ep (encA a) 0) := fun k => iaK_at (upto l day) rfl ha k
        simp only [encA] at i1
        rw [ha]
        have := hj3 (min u0 a.frm)
        simp [f_season_on_j2, g0, fs, hc', hc, i1, this]
      · have ha : l[upto l day]? = none := List.getElem?_eq_none (by omega)
        have hc' : ¬ (upto l day : Int) < (l.length : Int) := by omega
        rw [ha]
        have := hj3 u0
        simp [f_season_on_j2, g0, fs, hc', hc, this]
    have hj1 : f_season_on_j1 Try.prog t_season_on d_season_on NN (fun v g => cvt false g v) (I cls) (.ptr 0 0 0 1) (.ptr 1 0 0 1) (.ptr 2 0 0 1) (.ptr 3 0 0 1) H = some (.tup [I (rateOn l cls day), I (change l day u0)]) := by
      by_cases hd : Cal.dn (Cal.ny y m) (Cal.nm m) ≤ 100000
      · rw [if_pos hd] at hday hu0
        rw [hu0] at hj2 ⊢
        simp [f_season_on_j1, g3, hday, hj2]
      · rw [if_neg hd] at hday hu0
        rw [hu0] at hj2 ⊢
        simp [f_season_on_j1, g3, hday, hj2]
    have w1 : IntKind.i64.wrap (m + 1) = m + 1 := wrap64 (by omega) (by omega)
    have w2 : IntKind.i64.wrap (y + 1) = y + 1 := wrap64 (by omega) (by omega)
    refine Eq.trans ?_ hj1
    rw [hH]
    by_cases h12 : m = 12
    · subst h12
      simp [f_season_on, hD, buildK, fillA, w1, w2, Cal.ny, Cal.nm]
    · have h12' : (m == 12) = false := by simpa using h12
      simp [f_season_on, hD, buildK, fillA, w1, w2, h12, h12', Cal.ny, Cal.nm]
def sumN (f : Int → Int) (a : Int) : Nat → Int
  | 0 => 0
  | n + 1 => f a + sumN f (a + 1) n
theorem sumN_add (f : Int → Int) : ∀ (m n : Nat) (a : Int), sumN f a (m + n) = sumN f a m + sumN f (a + m) n
  | 0, n, a => by simp [sumN]
  | m + 1, n, a => by
    rw [show m + 1 + n = (m + n) + 1 by omega]
    simp only [sumN]
    rw [sumN_add f m n (a + 1), show a + 1 + (m : Int) = a + ((m + 1 : Nat) : Int) by omega]
    omega
theorem sumN_const (f : Int → Int) (r : Int) : ∀ (n : Nat) (a : Int), (∀ e, a ≤ e → e < a + n → f e = r) → sumN f a n = r * n
  | 0, a, h => by simp [sumN]
  | n + 1, a, h => by
    simp only [sumN]
    rw [h a (by omega) (by omega), sumN_const f r n (a + 1) (fun e h1 h2 => h e (by omega) (by omega))]
    have : r * ((n + 1 : Nat) : Int) = r * n + r := by rw [Int.natCast_add, Int.mul_add]; simp
    omega
theorem sumN_bd (f : Int → Int) {b : Int} (hf : ∀ e, 0 ≤ f e ∧ f e ≤ b) (hb : 0 ≤ b) : ∀ (n : Nat) (a : Int), 0 ≤ sumN f a n ∧ sumN f a n ≤ b * n
  | 0, a => by simp [sumN]
  | n + 1, a => by
    have h1 := hf a
    have h2 := sumN_bd f hf hb n (a + 1)
    have : b * ((n + 1 : Nat) : Int) = b * n + b := by rw [Int.natCast_add, Int.mul_add]; simp
    simp only [sumN]
    omega
noncomputable def sumA (l : List Allow) (cls frm to : Int) : Int := sumN (rateOn l cls) frm (to - frm).toNat
theorem sumA_bd {l : List Allow} (hg : ∀ a ∈ l, badA a = false) (cls frm to : Int) (h : to - frm ≤ 100001) : 0 ≤ sumA l cls frm to ∧ sumA l cls frm to ≤ 1000010000 := by
  have := sumN_bd (rateOn l cls) (rateOn_bd hg cls) (by omega) (to - frm).toNat frm
  unfold sumA
  omega
theorem season_sum_L3 (hT : T 71 = some F_season_on) {x0 : AV → Hp → Option β} (l : List Allow) (b : Bool) (cls to : Int) (hs : l.Pairwise (fun a b => ltA a b = true)) (hg : ∀ a ∈ l, badA a = false) (hl : l.length < 1000000) (ht : 0 ≤ to ∧ to ≤ 100000) (v14 : Int) (hv : 0 ≤ v14 ∧ v14 ≤ 100000) (h : Hp) :
    ∀ (n : Nat) (frm i acc : Int), 0 ≤ frm → frm ≤ to → 0 ≤ i → i ≤ v14 → (v14 - i).toNat < n → to - frm ≤ v14 - i → (0 ≤ acc ∧ acc ≤ 100000000000 - 1000000 * (to - frm)) →
    f_season_sum_L3 P T D N x0 n (.lst 4 b (l.map encA)) (I cls) (I frm) (I to) (I acc) (I v14) (I i) h = x0 (I (acc + sumA l cls frm to)) h := by
  intro n
  induction n with
  | zero => intro frm i acc _ _ _ _ h; omega
  | succ n ih =>
    intro frm i acc h1 h2 h3 h4 h5 h6 h7
    show f_season_sum_b3 P T D N (f_season_sum_L3 P T D N x0 n) x0 _ _ _ _ _ _ _ h = _
    by_cases hiv : i < v14
    · by_cases hft : to ≤ frm
      · have : frm = to := by omega
        subst this
        have e : sumA l cls frm frm = 0 := by simp [sumA, sumN]
        simp [f_season_sum_b3, hiv, e]
      · obtain ⟨u, u1, u2, u3, u4⟩ := F_season_on_val l b cls frm hs hg hl h1 (by omega)
        obtain ⟨w, hw⟩ : ∃ w, w = min u to := ⟨_, rfl⟩
        have hwb : frm < w ∧ w ≤ to ∧ w ≤ u := by omega
        have hr := rateOn_bd hg cls frm
        obtain ⟨k, hk⟩ : ∃ k : Nat, w - frm = (k : Int) := Int.eq_ofNat_of_zero_le (by omega)
        have e1 : sumA l cls frm to = rateOn l cls frm * (w - frm) + sumA l cls w to := by
          unfold sumA
          have e2 : (to - frm).toNat = k + (to - w).toNat := by omega
          rw [e2, sumN_add, sumN_const (rateOn l cls) (rateOn l cls frm) k frm (fun e q1 q2 => u3 e q1 (by omega)), hk, show frm + (k : Int) = w by omega]
        have hm : 0 ≤ rateOn l cls frm * (w - frm) ∧ rateOn l cls frm * (w - frm) ≤ 10000 * (w - frm) := ⟨Int.mul_nonneg hr.1 (by omega), Int.mul_le_mul_of_nonneg_right hr.2 (by omega)⟩
        have w1 : IntKind.i64.wrap (w - frm) = w - frm := wrap64 (by omega) (by omega)
        have w2 : IntKind.i64.wrap (rateOn l cls frm * (w - frm)) = rateOn l cls frm * (w - frm) := wrap64 (by omega) (by omega)
        have w3 : IntKind.i64.wrap (acc + rateOn l cls frm * (w - frm)) = acc + rateOn l cls frm * (w - frm) := wrap64 (by omega) (by omega)
        have w4 : IntKind.i64.wrap (i + 1) = i + 1 := wrap64 (by omega) (by omega)
        have step := ih w (i + 1) (acc + rateOn l cls frm * (w - frm)) (by omega) (by omega) (by omega) (by omega) (by omega) (by omega) (by omega)
        rw [e1, ← Int.add_assoc, ← step]
        simp [f_season_sum_b3, hiv, hft, hT, u4, ← hw, w1, w2, w3, w4]
    · have : frm = to := by omega
      subst this
      have e : sumA l cls frm frm = 0 := by simp [sumA, sumN]
      simp [f_season_sum_b3, hiv, e]
theorem F_season_sum_val (l : List Allow) (b : Bool) (cls frm to : Int) (hs : l.Pairwise (fun a b => ltA a b = true)) (hg : ∀ a ∈ l, badA a = false) (hl : l.length < 1000000) (h0 : 0 ≤ frm) (h1 : frm ≤ to) (h2 : to ≤ 100000) (h : Hp) :
    F_season_sum [.lst 4 b (l.map encA), I cls, I frm, I to] h = some (I (sumA l cls frm to), h) := by
  refine F_season_sum_run rfl ?_ h
  have w1 : IntKind.i64.wrap (to - frm) = to - frm := wrap64 (by omega) (by omega)
  have := season_sum_L3 (P := Try.prog) (T := t_season_sum) (D := d_season_sum) (N := NN) rfl (x0 := fun w13_9 h => f_season_sum_j2 Try.prog t_season_sum d_season_sum NN (fun v g => cvt false g v) w13_9 h) l b cls to hs hg hl ⟨by omega, h2⟩ (to - frm) ⟨by omega, by omega⟩ [] NN frm 0 0 h0 h1 (by omega) (by omega) (by have := NN_ge; omega) (by omega) (by omega)
  refine Eq.trans ?_ (this.trans ?_)
  · simp [f_season_sum, w1]
  · simp [f_season_sum_j2, f_season_sum_j1]
theorem rightA_ok {l : List Allow} (h : rightA l = true) : l.length ≤ 128 ∧ (∀ a ∈ l, badA a = false) ∧ l.Pairwise (fun a b => ltA a b = true) := checkA_ok (by simpa [rightA] using h)
noncomputable def allowedS (l : List Allow) (cls alc frm to : Int) : Int × Int :=
  if rightA l = false then (0, 1) else if (win cls 1 9 && win frm 0 100000 && win to 0 100000 && win alc 0 10737418240000) = false then (0, 2) else if to < frm then (0, 5) else (min (alc * sumA l cls frm to / 1000000) alc, 0)
theorem F_season_Allowed_val (l : List Allow) (b : Bool) (cls alc frm to : Int) (h : Hp) : F_season_Allowed [.lst 4 b (l.map encA), I cls, I alc, I frm, I to] h = some (.tup [I (allowedS l cls alc frm to).1, I (allowedS l cls alc frm to).2], h) := by
  refine F_season_Allowed_run rfl ?_ h
  unfold allowedS
  cases hr : rightA l with
  | false => simp [f_season_Allowed, F_season_right_val, hr]
  | true =>
    obtain ⟨h1, h2, h3⟩ := rightA_ok hr
    cases c1 : win cls 1 9 <;> cases c2 : win frm 0 100000 <;> cases c3 : win to 0 100000 <;> cases c4 : win alc 0 10737418240000 <;> simp [f_season_Allowed, F_season_right_val, hr, F_season_in_val, c1, c2, c3, c4]
    simp only [win, Bool.and_eq_true, decide_eq_true_eq] at c2 c3 c4
    by_cases hc : to < frm
    · simp [hc]
    · have fs := F_season_sum_val l b cls frm to h3 h2 (by omega) (by omega) (by omega) (by omega)
      have hb := sumA_bd h2 cls frm to (by omega)
      have fp := F_proportion_Of_val alc (sumA l cls frm to) 1000000
      have hm : (amt alc && amt (sumA l cls frm to) && amt 1000000) = true := by simp [amt]; omega
      generalize sumA l cls frm to = s at *
      by_cases hq : alc * s / 1000000 ≤ 128849018880000
      · have e : propOf alc s 1000000 = (alc * s / 1000000, alc * s % 1000000, 0) := by unfold propOf; rw [hm]; simp [hq]
        rw [e] at fp
        simp [hc, fs, fp]
      · have e : propOf alc s 1000000 = (0, 0, 15) := by unfold propOf; rw [hm]; simp [hq]
        rw [e] at fp
        have hmin : min (alc * s / 1000000) alc = alc := by omega
        simp [hc, fs, fp, hmin]
end
end Go.AM


namespace Go.AM
open Go.Proofs
set_option linter.unusedVariables false
set_option linter.unusedSimpArgs false
set_option linter.constructorNameAsVariable false
set_option maxRecDepth 20000
section
variable {β : Type} {P : Program} {ty : TypeId}
end
end Go.AM


namespace Go.AM
open Go.Proofs
set_option linter.unusedVariables false
set_option linter.unusedSimpArgs false
set_option linter.constructorNameAsVariable false
set_option maxRecDepth 20000
end Go.AM


namespace Go.AM
open Go.Proofs
set_option linter.unusedVariables false
set_option linter.unusedSimpArgs false
set_option linter.constructorNameAsVariable false
set_option maxRecDepth 20000
section
variable {β : Type} {P : Program} {ty : TypeId}
variable {T : Tab} {D : DTab} {N : Nat} {x0 : AV → AV → AV → Hp → Option β}
end
end Go.AM


namespace Go.AM
open Go.Proofs
set_option linter.unusedVariables false
set_option linter.unusedSimpArgs false
set_option linter.constructorNameAsVariable false
set_option maxRecDepth 20000
end Go.AM


namespace Go.AM
open Go.Proofs
set_option linter.unusedVariables false
set_option linter.unusedSimpArgs false
set_option linter.constructorNameAsVariable false
set_option maxRecDepth 20000
end Go.AM


namespace Go.AM
open Go.Proofs
set_option linter.unusedVariables false
set_option linter.unusedSimpArgs false
set_option linter.constructorNameAsVariable false
set_option maxRecDepth 20000
section
variable {β : Type} {P : Program} {T : Tab} {D : DTab} {N : Nat} {K : AV → Hp → Option β}
end
end Go.AM


namespace Go.AM
open Go.Proofs
set_option linter.unusedVariables false
set_option linter.unusedSimpArgs false
set_option linter.constructorNameAsVariable false
set_option maxRecDepth 20000
theorem F_journey_in_val (a b c : Int) (h : Hp) : F_journey_in [I a, I b, I c] h = some (B (win a b c), h) := F_journey_in_run rfl (by simp [f_journey_in, win]) h
theorem F_journey_node_val (a : Int) (h : Hp) : F_journey_node [I a] h = some (B (win a 1 99), h) := F_journey_node_run rfl (by simp [f_journey_node, F_journey_in_val]) h
theorem set_app {h : Hp} {g : List AObj} {id : Nat} {x o : AObj} (hid : h[id]? = some x) : (h ++ g).set id o = h.set id o ++ g := by
  rw [List.set_append_left _ _ (List.getElem?_eq_some_iff.1 hid).1]
theorem wr_7 (id : Nat) (j : Jny) (x : Leg) : Writes F_journey_table_7 id (.agg (encL x)) 9 (encJ j) (encJ { j with halt := true }) := by
  refine ⟨by simp [plain, encJ], fun H hid => ⟨[.arr 5 [encL x] true false], ?_⟩⟩
  rw [F_journey_table_7_raw]
  have hid' := get_app (g := [.arr 5 [encL x] true false]) hid
  have hs := fun o => set_app (g := [.arr 5 [encL x] true false]) (o := o) hid
  have hg : ∀ o : AObj, (H.set id o ++ [.arr 5 [encL x] true false])[id]? = some o := fun o => by
    rw [List.getElem?_append_left (by simpa using (List.getElem?_eq_some_iff.1 hid).1), List.getElem?_set_self (List.getElem?_eq_some_iff.1 hid).1]
  have hss : ∀ o p : AObj, (H.set id o ++ [AObj.arr 5 [encL x] true false]).set id p = H.set id p ++ [AObj.arr 5 [encL x] true false] := fun o p => by
    rw [List.set_append_left _ _ (by simpa using (List.getElem?_eq_some_iff.1 hid).1), List.set_set]
  simp only [encL, encJ] at hid' hs hg hss ⊢
  simp [f_journey_table_7, boxE, nilK, hid', stE, ap, hs]
theorem wr_10 (id : Nat) (j : Jny) (x : Leg) : Writes F_journey_table_10 id (.agg (encL x)) 9 (encJ j) (encJ { j with halt := false }) := by
  refine ⟨by simp [plain, encJ], fun H hid => ⟨[.arr 5 [encL x] true false], ?_⟩⟩
  rw [F_journey_table_10_raw]
  have hid' := get_app (g := [.arr 5 [encL x] true false]) hid
  have hs := fun o => set_app (g := [.arr 5 [encL x] true false]) (o := o) hid
  have hg : ∀ o : AObj, (H.set id o ++ [.arr 5 [encL x] true false])[id]? = some o := fun o => by
    rw [List.getElem?_append_left (by simpa using (List.getElem?_eq_some_iff.1 hid).1), List.getElem?_set_self (List.getElem?_eq_some_iff.1 hid).1]
  have hss : ∀ o p : AObj, (H.set id o ++ [AObj.arr 5 [encL x] true false]).set id p = H.set id p ++ [AObj.arr 5 [encL x] true false] := fun o p => by
    rw [List.set_append_left _ _ (by simpa using (List.getElem?_eq_some_iff.1 hid).1), List.set_set]
  simp only [encL, encJ] at hid' hs hg hss ⊢
  simp [f_journey_table_10, boxE, nilK, hid', stE, ap, hs]
theorem wr_12 (id : Nat) (j : Jny) (x : Leg) : Writes F_journey_table_12 id (.agg (encL x)) 9 (encJ j) (encJ { j with to := x.to }) := by
  refine ⟨by simp [plain, encJ], fun H hid => ⟨[.arr 5 [encL x] true false], ?_⟩⟩
  rw [F_journey_table_12_raw]
  have hid' := get_app (g := [.arr 5 [encL x] true false]) hid
  have hs := fun o => set_app (g := [.arr 5 [encL x] true false]) (o := o) hid
  have hg : ∀ o : AObj, (H.set id o ++ [.arr 5 [encL x] true false])[id]? = some o := fun o => by
    rw [List.getElem?_append_left (by simpa using (List.getElem?_eq_some_iff.1 hid).1), List.getElem?_set_self (List.getElem?_eq_some_iff.1 hid).1]
  have hss : ∀ o p : AObj, (H.set id o ++ [AObj.arr 5 [encL x] true false]).set id p = H.set id p ++ [AObj.arr 5 [encL x] true false] := fun o p => by
    rw [List.set_append_left _ _ (by simpa using (List.getElem?_eq_some_iff.1 hid).1), List.set_set]
  simp only [encL, encJ] at hid' hs hg hss ⊢
  simp [f_journey_table_12, boxE, nilK, hid', stE, ap, hs]
theorem wr_5 (id : Nat) (j : Jny) (x : Leg) : Writes F_journey_table_5 id (.agg (encL x)) 9 (encJ j) (encJ ⟨x.alc, 0, 0, 0, x.alc, x.place, x.to, false, false⟩) := by
  refine ⟨by simp [plain, encJ], fun H hid => ⟨[.arr 5 [encL x] true false], ?_⟩⟩
  rw [F_journey_table_5_raw]
  have hid' := get_app (g := [.arr 5 [encL x] true false]) hid
  have hs := fun o => set_app (g := [.arr 5 [encL x] true false]) (o := o) hid
  have hg : ∀ o : AObj, (H.set id o ++ [.arr 5 [encL x] true false])[id]? = some o := fun o => by
    rw [List.getElem?_append_left (by simpa using (List.getElem?_eq_some_iff.1 hid).1), List.getElem?_set_self (List.getElem?_eq_some_iff.1 hid).1]
  have hss : ∀ o p : AObj, (H.set id o ++ [AObj.arr 5 [encL x] true false]).set id p = H.set id p ++ [AObj.arr 5 [encL x] true false] := fun o p => by
    rw [List.set_append_left _ _ (by simpa using (List.getElem?_eq_some_iff.1 hid).1), List.set_set]
  simp only [encL, encJ] at hid' hs hg hss ⊢
  simp [f_journey_table_5, boxE, nilK, hid', stE, ap, hs, buildK, fillA]
theorem wr_13 (id : Nat) (j : Jny) (x : Leg) (w1 : IntKind.i64.wrap (j.spl + x.alc) = j.spl + x.alc) (w2 : IntKind.i64.wrap (j.tra - x.alc) = j.tra - x.alc) : Writes F_journey_table_13 id (.agg (encL x)) 9 (encJ j) (encJ { j with spl := j.spl + x.alc, tra := j.tra - x.alc }) := by
  refine ⟨by simp [plain, encJ], fun H hid => ⟨[.arr 5 [encL x] true false], ?_⟩⟩
  rw [F_journey_table_13_raw]
  have hl : id ≠ H.length := by have := (List.getElem?_eq_some_iff.1 hid).1; omega
  have hid' := get_app (g := [.arr 5 [encL x] true false]) hid
  have hs := fun o => set_app (g := [.arr 5 [encL x] true false]) (o := o) hid
  have hg : ∀ o : AObj, (H.set id o ++ [.arr 5 [encL x] true false])[id]? = some o := fun o => by
    rw [List.getElem?_append_left (by simpa using (List.getElem?_eq_some_iff.1 hid).1), List.getElem?_set_self (List.getElem?_eq_some_iff.1 hid).1]
  have hss : ∀ o p : AObj, (H.set id o ++ [AObj.arr 5 [encL x] true false]).set id p = H.set id p ++ [AObj.arr 5 [encL x] true false] := fun o p => by
    rw [List.set_append_left _ _ (by simpa using (List.getElem?_eq_some_iff.1 hid).1), List.set_set]
  simp only [encL, encJ] at hid' hs hg hss ⊢
  simp [f_journey_table_13, boxE, nilK, hid', stE, ap, hs, w1, w2, hl, hg, hss, disjAll, disj2, wrOf, idsOf]
theorem wr_14 (id : Nat) (j : Jny) (x : Leg) (w1 : IntKind.i64.wrap (j.lost + x.alc) = j.lost + x.alc) (w2 : IntKind.i64.wrap (j.tra - x.alc) = j.tra - x.alc) : Writes F_journey_table_14 id (.agg (encL x)) 9 (encJ j) (encJ { j with lost := j.lost + x.alc, tra := j.tra - x.alc }) := by
  refine ⟨by simp [plain, encJ], fun H hid => ⟨[.arr 5 [encL x] true false], ?_⟩⟩
  rw [F_journey_table_14_raw]
  have hl : id ≠ H.length := by have := (List.getElem?_eq_some_iff.1 hid).1; omega
  have hid' := get_app (g := [.arr 5 [encL x] true false]) hid
  have hs := fun o => set_app (g := [.arr 5 [encL x] true false]) (o := o) hid
  have hg : ∀ o : AObj, (H.set id o ++ [.arr 5 [encL x] true false])[id]? = some o := fun o => by
    rw [List.getElem?_append_left (by simpa using (List.getElem?_eq_some_iff.1 hid).1), List.getElem?_set_self (List.getElem?_eq_some_iff.1 hid).1]
  have hss : ∀ o p : AObj, (H.set id o ++ [AObj.arr 5 [encL x] true false]).set id p = H.set id p ++ [AObj.arr 5 [encL x] true false] := fun o p => by
    rw [List.set_append_left _ _ (by simpa using (List.getElem?_eq_some_iff.1 hid).1), List.set_set]
  simp only [encL, encJ] at hid' hs hg hss ⊢
  simp [f_journey_table_14, boxE, nilK, hid', stE, ap, hs, w1, w2, hl, hg, hss, disjAll, disj2, wrOf, idsOf]
theorem wr_16 (id : Nat) (j : Jny) (x : Leg) (w1 : IntKind.i64.wrap (j.lost + j.tra) = j.lost + j.tra) (w2 : IntKind.i64.wrap (j.lost + j.tra - x.alc) = j.lost + j.tra - x.alc) : Writes F_journey_table_16 id (.agg (encL x)) 9 (encJ j) (encJ { j with arr := x.alc, lost := j.lost + j.tra - x.alc, tra := 0, endd := true }) := by
  refine ⟨by simp [plain, encJ], fun H hid => ⟨[.arr 5 [encL x] true false], ?_⟩⟩
  rw [F_journey_table_16_raw]
  have hl : id ≠ H.length := by have := (List.getElem?_eq_some_iff.1 hid).1; omega
  have hid' := get_app (g := [.arr 5 [encL x] true false]) hid
  have hs := fun o => set_app (g := [.arr 5 [encL x] true false]) (o := o) hid
  have hg : ∀ o : AObj, (H.set id o ++ [.arr 5 [encL x] true false])[id]? = some o := fun o => by
    rw [List.getElem?_append_left (by simpa using (List.getElem?_eq_some_iff.1 hid).1), List.getElem?_set_self (List.getElem?_eq_some_iff.1 hid).1]
  have hss : ∀ o p : AObj, (H.set id o ++ [AObj.arr 5 [encL x] true false]).set id p = H.set id p ++ [AObj.arr 5 [encL x] true false] := fun o p => by
    rw [List.set_append_left _ _ (by simpa using (List.getElem?_eq_some_iff.1 hid).1), List.set_set]
  simp only [encL, encJ] at hid' hs hg hss ⊢
  simp [f_journey_table_16, boxE, nilK, hid', stE, ap, hs, w1, w2, hl, hg, hss, disjAll, disj2, wrOf, idsOf]
def kindsT : List AV := [.s .nilFunc, .s .nilFunc, .s .nilFunc,
  .fn 54 [], .fn 51 [], .fn 56 [], .fn 57 [], .fn 52 [], .fn 58 [],
  .fn 59 [], .fn 60 [], .fn 61 [], .fn 62 [], .fn 51 [], .fn 63 [],
  .fn 53 [], .fn 51 [], .fn 64 [], .fn 53 [], .fn 51 [], .fn 65 [],
  .fn 66 [], .fn 52 [], .fn 67 []]
theorem table_run {β : Type} (K : AV → Hp → Option β) (h : Hp) : f_journey_table Try.prog t_journey_table d_journey_table NN K h = K (.agg kindsT) (h ++ [.arr 24 [kindsT] true false]) := by
  have hl : (h ++ [AObj.arr 24 [kindsT] true false])[h.length]? = some (.arr 24 [kindsT] true false) := by simp
  simp [f_journey_table, boxE, buildK, fillA, stE, ap, kindsT]
theorem F_journey_table_val (h : Hp) : F_journey_table [] h = some (.agg kindsT, h) := F_journey_table_q (g := [.arr 24 [kindsT] true false]) (table_run _ h) rfl
theorem G_journey_table_val (h : Hp) (base : Nat) : G_journey_table [] h base = some (.agg kindsT, EF []) := roD_val ⟨rfl, fun H _ => ⟨[], by simpa using F_journey_table_val H⟩⟩ base
theorem F_t1_val (j : Jny) (h : Hp) : F_journey_table_1 [.agg (encJ j)] h = some (B false, h) := F_journey_table_1_run rfl (by simp [f_journey_table_1, boxE, encJ]) h
theorem F_t2_val (j : Jny) (h : Hp) : F_journey_table_2 [.agg (encJ j)] h = some (B j.halt, h) := F_journey_table_2_run rfl (by simp [f_journey_table_2, boxE, encJ]) h
theorem F_t9_val (j : Jny) (h : Hp) : F_journey_table_9 [.agg (encJ j)] h = some (B (!j.halt), h) := F_journey_table_9_run rfl (by simp [f_journey_table_9, boxE, encJ]) h
theorem F_t3_val (x : Leg) (h : Hp) : F_journey_table_3 [.agg (encL x)] h = some (B (partL x), h) := by
  refine F_journey_table_3_run rfl ?_ h
  unfold partL
  cases c1 : (x.place == 0) <;> cases c2 : (x.to == 0) <;> simp [f_journey_table_3, boxE, encL, F_journey_in_val, c1, c2]
theorem F_t4_val (x : Leg) (h : Hp) : F_journey_table_4 [.agg (encL x)] h = some (B (win x.place 1 99 && win x.to 1 99 && x.place != x.to && win x.alc 1 10737418240000), h) := by
  refine F_journey_table_4_run rfl ?_ h
  have c4 : (!decide (x.place = x.to)) = (x.place != x.to) := by by_cases e : x.place = x.to <;> simp [e]
  cases c1 : win x.place 1 99 <;> cases c2 : win x.to 1 99 <;> cases c3 : (x.place == x.to) <;> simp [f_journey_table_4, boxE, encL, F_journey_in_val, F_journey_node_val, c1, c2, c3, bne]
theorem F_t6_val (x : Leg) (h : Hp) : F_journey_table_6 [.agg (encL x)] h = some (B (win x.place 1 99 && x.to == 0 && x.alc == 0), h) := by
  refine F_journey_table_6_run rfl ?_ h
  cases c1 : win x.place 1 99 <;> cases c2 : (x.to == 0) <;> simp [f_journey_table_6, boxE, encL, F_journey_in_val, F_journey_node_val, c1, c2]
theorem F_t8_val (x : Leg) (h : Hp) : F_journey_table_8 [.agg (encL x)] h = some (B (x.place == 0 && x.to == 0 && x.alc == 0), h) := by
  refine F_journey_table_8_run rfl ?_ h
  cases c1 : (x.place == 0) <;> cases c2 : (x.to == 0) <;> simp [f_journey_table_8, boxE, encL, c1, c2]
theorem F_t11_val (x : Leg) (h : Hp) : F_journey_table_11 [.agg (encL x)] h = some (B (x.place == 0 && win x.to 1 99 && x.alc == 0), h) := by
  refine F_journey_table_11_run rfl ?_ h
  cases c1 : (x.place == 0) <;> cases c2 : win x.to 1 99 <;> simp [f_journey_table_11, boxE, encL, F_journey_node_val, c1, c2]
theorem F_t15_val (x : Leg) (h : Hp) : F_journey_table_15 [.agg (encL x)] h = some (B (win x.place 1 99 && x.to == 0 && win x.alc 0 10737418240000), h) := by
  refine F_journey_table_15_run rfl ?_ h
  cases c1 : win x.place 1 99 <;> cases c2 : (x.to == 0) <;> simp [f_journey_table_15, boxE, encL, F_journey_in_val, F_journey_node_val, c1, c2]
end Go.AM


namespace Go.AM
open Go.Proofs
set_option linter.unusedVariables false
set_option linter.unusedSimpArgs false
set_option linter.constructorNameAsVariable false
set_option maxRecDepth 20000
theorem eqK_bool {β : Type} (neq a b : Bool) (h : Hp) (k : Go.AM.K β) : eqK Try.prog neq 4 (B a) (B b) h k = k (B (xor neq (a == b))) := by
  have : Try.prog.underlying 4 = some .bool := by kernel_rfl
  simp [eqK, this]
def formF (k : Int) : Nat := if k = 1 then 54 else if k = 2 then 57 else if k = 3 then 59 else if k = 4 then 62 else if k = 5 then 53 else if k = 6 then 53 else 66
def refF (k : Int) : Nat := if k = 1 then 51 else if k = 2 then 52 else if k = 3 then 60 else if k = 4 then 51 else if k = 5 then 51 else if k = 6 then 51 else 52
def actF (k : Int) : Nat := if k = 1 then 56 else if k = 2 then 58 else if k = 3 then 61 else if k = 4 then 63 else if k = 5 then 64 else if k = 6 then 65 else 67
theorem kinds7 {k : Int} (h : 1 ≤ k ∧ k ≤ 7) : k = 1 ∨ k = 2 ∨ k = 3 ∨ k = 4 ∨ k = 5 ∨ k = 6 ∨ k = 7 := by omega
theorem ixk {β : Type} {k : Int} (h : 1 ≤ k ∧ k ≤ 7) (K : AV → Option β) : ixA 3 8 true (.agg kindsT) (I k) K = K (.agg [.fn (formF k) [], .fn (refF k) [], .fn (actF k) []]) := by
  rcases kinds7 h with e | e | e | e | e | e | e <;> subst e <;> rfl
theorem gd {shp shr : List Sh} {F : Fun} {args : List AV} {v : AV} {h : Hp} (hk : closedX shp shr F args h = some (v, h)) (hi : idss args = []) (base : Nat) : closedXD shp shr F args h base = some (v, EF []) := (closedXD_val hk base).trans (by rw [hi]; rfl)
theorem idsL (x : Leg) : idss [.agg (encL x)] = [] := by simp [idss, ids, encL]
theorem idsJ (j : Jny) : idss [.agg (encJ j)] = [] := by simp [idss, ids, encJ]
theorem gform {k : Int} (hk : 1 ≤ k ∧ k ≤ 7) (x : Leg) (hx : x.kind = k) (h : Hp) (base : Nat) : callVE d_journey_fault (.fn (formF k) []) [.agg (encL x)] h base = some (B (formL x), EF []) := by
  rcases kinds7 hk with e | e | e | e | e | e | e <;> subst e <;> rw [callVE_fn, List.append_nil] <;> unfold formL <;> simp only [hx]
  · exact gd (F_t4_val x h) (idsL x) base
  · exact gd (F_t6_val x h) (idsL x) base
  · exact gd (F_t8_val x h) (idsL x) base
  · exact gd (F_t11_val x h) (idsL x) base
  · exact gd (F_t3_val x h) (idsL x) base
  · exact gd (F_t3_val x h) (idsL x) base
  · exact gd (F_t15_val x h) (idsL x) base
theorem gref {k : Int} (hk : 1 ≤ k ∧ k ≤ 7) (j : Jny) (h : Hp) (base : Nat) : callVE d_journey_fault (.fn (refF k) []) [.agg (encJ j)] h base = some (B (refL j k), EF []) := by
  rcases kinds7 hk with e | e | e | e | e | e | e <;> subst e <;> rw [callVE_fn, List.append_nil]
  · exact gd (F_t1_val j h) (idsJ j) base
  · exact gd (F_t2_val j h) (idsJ j) base
  · exact gd (F_t9_val j h) (idsJ j) base
  · exact gd (F_t1_val j h) (idsJ j) base
  · exact gd (F_t1_val j h) (idsJ j) base
  · exact gd (F_t1_val j h) (idsJ j) base
  · exact gd (F_t2_val j h) (idsJ j) base
theorem G_journey_in_val (a b c : Int) (h : Hp) (base : Nat) : G_journey_in [I a, I b, I c] h base = some (B (win a b c), EF []) := gd (F_journey_in_val a b c h) (by simp [idss, ids]) base
set_option maxHeartbeats 4000000 in
theorem F_journey_fault_val (j : Jny) (begun : Bool) (last : Int) (x : Leg) (h : Hp) : F_journey_fault [.agg (encJ j), B begun, I last, .agg (encL x)] h = some (I (faultL j begun last x), h) := by
  refine F_journey_fault_run (by simp [encJ, encL]) ?_ h
  unfold faultL
  have gt := G_journey_table_val
  cases c1 : win x.day 0 100000
  · simp [f_journey_fault, boxE, encJ, encL, G_journey_in_val, c1, disjAll, disj2, wrOf, ap, idsOf, EF]
  cases c2 : win x.kind 1 7
  · simp [f_journey_fault, boxE, encJ, encL, G_journey_in_val, c1, c2, disjAll, disj2, wrOf, ap, idsOf, EF]
  have hk : 1 ≤ x.kind ∧ x.kind ≤ 7 := by simpa [win] using c2
  have i1 := fun K : AV → Option AV => ixk hk K
  have i2 := gform hk x rfl
  have i3 := gref hk j
  have e1 : (x.kind == 1) = decide (x.kind = 1) := by by_cases q : x.kind = 1 <;> simp [q]
  have e2 : (begun == decide (x.kind = 1)) = (begun == (x.kind == 1)) := by rw [e1]
  rw [e2]
  have i0 : ∀ (a b c : AV) (k : Go.AM.K AV), fldK 1 false 0 (.agg [a, b, c]) k = k a := fun a b c k => rfl
  have i5 : ∀ (a b c : AV) (k : Go.AM.K AV), fldK 1 false 1 (.agg [a, b, c]) k = k b := fun a b c k => rfl
  simp only [callVE_fn, List.append_nil] at i2 i3
  generalize formF x.kind = ff at *
  generalize refF x.kind = fr at *
  generalize actF x.kind = fa at *
  simp only [encL, encJ] at i2 i3
  cases c3 : formL x with
  | false =>
    rw [c3] at i2
    simp [f_journey_fault, boxE, encJ, encL, G_journey_in_val, eqK_bool, c1, c2, gt, i1, i0, i5, i2, disjAll, disj2, wrOf, ap, idsOf, EF]
  | true =>
    rw [c3] at i2
    by_cases c4 : x.day < last
    · simp [f_journey_fault, boxE, encJ, encL, G_journey_in_val, eqK_bool, c1, c2, gt, i1, i0, i5, i2, c4, disjAll, disj2, wrOf, ap, idsOf, EF]
    cases c5 : (begun == (x.kind == 1)) with
    | true =>
      simp [f_journey_fault, boxE, encJ, encL, G_journey_in_val, eqK_bool, c1, c2, gt, i1, i0, i5, i2, c4, c5, disjAll, disj2, wrOf, ap, idsOf, EF]
    | false =>
      cases c6 : j.endd with
      | true =>
        simp [f_journey_fault, boxE, encJ, encL, G_journey_in_val, eqK_bool, c1, c2, gt, i1, i0, i5, i2, c4, c5, c6, disjAll, disj2, wrOf, ap, idsOf, EF]
      | false =>
        cases c7 : refL j x.kind with
        | true =>
          rw [c7] at i3
          rw [c6] at i3
          simp [f_journey_fault, boxE, encJ, encL, G_journey_in_val, eqK_bool, c1, c2, gt, i1, i0, i5, i2, i3, c4, c5, c6, disjAll, disj2, wrOf, ap, idsOf, EF]
        | false =>
          rw [c7] at i3
          rw [c6] at i3
          have q4 : ∀ a b : Int, (a == b) = decide (a = b) := fun a b => by by_cases q : a = b <;> simp [q]
          have run : f_journey_fault Try.prog t_journey_fault d_journey_fault NN (fun v g => cvt false g v) (.agg (encJ j)) (B begun) (I last) (.agg (encL x)) [] = some (I (if (x.kind = 4 ∧ x.to = j.frm) ∨ (x.kind = 7 ∧ x.place ≠ j.to) then 10 else if 5 ≤ x.kind ∧ j.tra < x.alc then 17 else 0)) := by
            by_cases d1 : x.kind = 4
            · have d1' : (x.kind == 4) = true := by simpa using d1
              have d2 : ¬ x.kind = 7 := by omega
              have d2' : (x.kind == 7) = false := by simpa using d2
              have d5 : ¬ 5 ≤ x.kind := by omega
              cases d3 : (x.to == j.frm)
              · have d3' : ¬ x.to = j.frm := by simpa using d3
                rw [if_neg (by simp [d2, d3']), if_neg (by simp [d5])]
                simp [f_journey_fault, boxE, encJ, encL, G_journey_in_val, eqK_bool, c1, c2, gt, i1, i0, i5, i2, i3, c4, c5, c6, d1', d2', d3, d5, disjAll, disj2, wrOf, ap, idsOf, EF]
              · have d3' : x.to = j.frm := by simpa using d3
                rw [if_pos (.inl ⟨d1, d3'⟩)]
                simp [f_journey_fault, boxE, encJ, encL, G_journey_in_val, eqK_bool, c1, c2, gt, i1, i0, i5, i2, i3, c4, c5, c6, d1', d2', d3, d5, disjAll, disj2, wrOf, ap, idsOf, EF]
            · have d1' : (x.kind == 4) = false := by simpa using d1
              by_cases d2 : x.kind = 7
              · have d2' : (x.kind == 7) = true := by simpa using d2
                have d5 : 5 ≤ x.kind := by omega
                cases d4 : (x.place == j.to)
                · have d4' : ¬ x.place = j.to := by simpa using d4
                  rw [if_pos (.inr ⟨d2, d4'⟩)]
                  simp [f_journey_fault, boxE, encJ, encL, G_journey_in_val, eqK_bool, c1, c2, gt, i1, i0, i5, i2, i3, c4, c5, c6, d1', d2', d4, d5, disjAll, disj2, wrOf, ap, idsOf, EF]
                · have d4' : x.place = j.to := by simpa using d4
                  rw [if_neg (by simp [d1, d4'])]
                  by_cases d6 : j.tra < x.alc
                  · rw [if_pos ⟨d5, d6⟩]
                    simp [f_journey_fault, boxE, encJ, encL, G_journey_in_val, eqK_bool, c1, c2, gt, i1, i0, i5, i2, i3, c4, c5, c6, d1', d2', d4, d5, d6, disjAll, disj2, wrOf, ap, idsOf, EF]
                  · rw [if_neg (by simp [d6])]
                    simp [f_journey_fault, boxE, encJ, encL, G_journey_in_val, eqK_bool, c1, c2, gt, i1, i0, i5, i2, i3, c4, c5, c6, d1', d2', d4, d5, d6, disjAll, disj2, wrOf, ap, idsOf, EF]
              · have d2' : (x.kind == 7) = false := by simpa using d2
                rw [if_neg (by simp [d1, d2])]
                by_cases d5 : 5 ≤ x.kind
                · by_cases d6 : j.tra < x.alc
                  · rw [if_pos ⟨d5, d6⟩]
                    simp [f_journey_fault, boxE, encJ, encL, G_journey_in_val, eqK_bool, c1, c2, gt, i1, i0, i5, i2, i3, c4, c5, c6, d1', d2', d5, d6, disjAll, disj2, wrOf, ap, idsOf, EF]
                  · rw [if_neg (by simp [d6])]
                    simp [f_journey_fault, boxE, encJ, encL, G_journey_in_val, eqK_bool, c1, c2, gt, i1, i0, i5, i2, i3, c4, c5, c6, d1', d2', d5, d6, disjAll, disj2, wrOf, ap, idsOf, EF]
                · rw [if_neg (by simp [d5])]
                  simp [f_journey_fault, boxE, encJ, encL, G_journey_in_val, eqK_bool, c1, c2, gt, i1, i0, i5, i2, i3, c4, c5, c6, d1', d2', d5, disjAll, disj2, wrOf, ap, idsOf, EF]
          rw [run]
          simp [c4]
end Go.AM


namespace Go.AM
open Go.Proofs
set_option linter.unusedVariables false
set_option linter.unusedSimpArgs false
set_option linter.constructorNameAsVariable false
set_option maxRecDepth 20000
theorem gact {j : Jny} {begun : Bool} {last : Int} {x : Leg} (hj : InvJ j) (hf : faultL j begun last x = 0) {h : Hp} {id : Nat} (hid : h[id]? = some (.arr 9 [encJ j] true false)) (base : Nat) :
    callVE d_journey_Run (.fn (actF x.kind) []) [.ptr id 0 0 1, .agg (encL x)] h base = some (.tup [], ⟨[(id, .arr 9 [encJ (actL j x)] true false)], [], [id]⟩) := by
  obtain ⟨-, hk, hfo, -, -, -, -, -, -, hs⟩ := faultL_0 hf
  have hb := formL_bd hk hfo
  obtain ⟨s1, s2, s3, s4, s5, s6, s7, s8⟩ := hj
  unfold actL
  rcases kinds7 hk with e | e | e | e | e | e | e <;> rw [callVE_fn, List.append_nil] <;> simp only [e] at hs ⊢
  · exact wrD_val hid (wr_5 id j x) base
  · exact wrD_val hid (wr_7 id j x) base
  · exact wrD_val hid (wr_10 id j x) base
  · exact wrD_val hid (wr_12 id j x) base
  · exact wrD_val hid (wr_13 id j x (wrap64 (by omega) (by omega)) (wrap64 (by omega) (by omega))) base
  · exact wrD_val hid (wr_14 id j x (wrap64 (by omega) (by omega)) (wrap64 (by omega) (by omega))) base
  · exact wrD_val hid (wr_16 id j x (wrap64 (by omega) (by omega)) (wrap64 (by omega) (by omega))) base
def runX {β : Type} (X : Jny → Option β) (Y : Nat → Int → Option β) : Jny → Bool → Int → Nat → List Leg → Option β
  | j, _, _, _, [] => X j
  | j, bg, last, i, x :: l => if faultL j bg last x = 0 then runX X Y (actL j x) true x.day (i + 1) l else Y i (faultL j bg last x)
def boxL (x : Leg) : AObj := .arr 5 [encL x] true false
theorem Run_L2 {β : Type} {N : Nat} {x0 : AV → AV → Hp → Option β} {xr : AV → AV → AV → Hp → Option β} {X : Jny → Option β} {Y : Nat → Int → Option β}
    (hx : ∀ h j, h[0]? = some (.arr 9 [encJ zeroJ] true false) → h[1]? = some (.arr 9 [encJ j] true false) → x0 (.ptr 0 0 0 1) (.ptr 1 0 0 1) h = X j)
    (hr : ∀ h (i : Nat) e, h[0]? = some (.arr 9 [encJ zeroJ] true false) → xr (.ptr 0 0 0 1) (I i) (I e) h = Y i e) (l : List Leg) (b : Bool) (hl : l.length < 1000000) :
    ∀ (n : Nat) (pre post : List Leg) (j : Jny) (bg : Bool) (last : Int) (h : Hp), l = pre ++ post → post.length < n → InvJ j → bg = decide (0 < (pre.length : Int)) → h[0]? = some (.arr 9 [encJ zeroJ] true false) → h[1]? = some (.arr 9 [encJ j] true false) →
    f_journey_Run_L2 Try.prog t_journey_Run d_journey_Run N x0 xr n (.ptr 0 0 0 1) (.ptr 1 0 0 1) (I last) (.lst 5 b (l.map encL)) (I l.length) (I pre.length) h = runX X Y j bg last pre.length post := by
  intro n
  induction n with
  | zero => intro pre post j bg last h _ h2; omega
  | succ n ih =>
    intro pre post j bg last h hc hn hj hbg h0 h1
    show f_journey_Run_b2 Try.prog t_journey_Run d_journey_Run N (f_journey_Run_L2 Try.prog t_journey_Run d_journey_Run N x0 xr n) x0 xr _ _ _ _ _ _ h = _
    cases post with
    | nil =>
      have : l = pre := by simpa using hc
      subst this
      simp [f_journey_Run_b2, runX, hx h j h0 h1]
    | cons c post =>
      have hi : pre.length < l.length := by rw [hc]; simp
      have hci : l[pre.length]? = some c := by rw [hc]; simp
      have hlt : ((pre.length : Int) < (l.length : Int)) := by omega
      have hw : IntKind.i64.wrap ((pre.length : Int) + 1) = (((pre ++ [c]).length : Nat) : Int) := by rw [wrap64 (by omega) (by omega)]; simp
      have ic : ∀ k : Go.AM.K β, iaK 5 (.lst 5 b (l.map encL)) (I pre.length) k = k (.ep (encL c) 0) := fun k => iaK_at pre.length rfl hci k
      obtain ⟨H, hH⟩ : ∃ H, H = h ++ [boxL c] := ⟨_, rfl⟩
      have H0 : H[0]? = some (.arr 9 [encJ zeroJ] true false) := by rw [hH]; exact get_app h0
      have H1 : H[1]? = some (.arr 9 [encJ j] true false) := by rw [hH]; exact get_app h1
      have HL : H[h.length]? = some (boxL c) := by rw [hH]; simp
      have l1 : 1 < h.length := (List.getElem?_eq_some_iff.1 h1).1
      have ff := F_journey_fault_val j bg last c H
      have ldc : ∀ (g : Hp) (k : Go.AM.K β), ldK 5 true (.ep (encL c) 0) g k = k (.agg (encL c)) := fun g k => by simp [encL]
      have bx : ∀ k : AV → Hp → Option β, effK (boxE 5 (.agg [I 0, I 0, I 0, I 0, I 0]) h.length) h k = k (.ptr h.length 0 0 1) (h ++ [.arr 5 [[I 0, I 0, I 0, I 0, I 0]] true false]) := fun k => effK_box 5 h.length _ h k rfl rfl rfl
      have sx : ∀ k : AV → Hp → Option β, effK (stE 5 (.ptr h.length 0 0 1) (.agg (encL c)) (h ++ [.arr 5 [[I 0, I 0, I 0, I 0, I 0]] true false])) (h ++ [.arr 5 [[I 0, I 0, I 0, I 0, I 0]] true false]) k = k .u H := fun k => by
        rw [hH]; simp [encL, stE, ap, boxL]
      have ldj : ∀ k : Go.AM.K β, ldK 9 true (.ptr 1 0 0 1) H k = k (.agg (encJ j)) := fun k => by simp [H1, encJ]
      have ldx : ∀ k : Go.AM.K β, ldK 5 true (.ptr h.length 0 0 1) H k = k (.agg (encL c)) := fun k => by simp [HL, boxL, encL]
      have gtb : ∀ k : Go.AM.K β, arithK .gtr (I pre.length) (I 0) k = k (B bg) := fun k => by simp [hbg]
      unfold f_journey_Run_b2
      rw [arithK_lss, decide_eq_true hlt, condK_bool, if_pos rfl, ic, ldc, bx, sx, ldj, gtb, ldx, t_journey_Run_39, callK_F, ff]
      clear bx sx ldc ic ldx
      rw [runX]
      by_cases hf : faultL j bg last c = 0
      · rw [if_pos hf]
        obtain ⟨-, hk, -⟩ := faultL_0 hf
        have ga := gact hj hf H1
        have ixc := fun K : AV → Option β => ixk hk K
        have i2 : ∀ (a b c : AV) (k : Go.AM.K β), fldK 1 false 2 (.agg [a, b, c]) k = k c := fun a b c k => rfl
        have hlen : H.length = h.length + 1 := by rw [hH]; simp
        have step := ih (pre ++ [c]) post (actL j c) true c.day (H.set 1 (.arr 9 [encJ (actL j c)] true false)) (by simpa using hc) (by simpa using hn) (actL_inv hj hf) (by simp) (by rw [List.getElem?_set_ne (by omega)]; exact H0) (List.getElem?_set_self (by omega))
        have e1 : (pre ++ [c]).length = pre.length + 1 := by simp
        rw [e1] at step hw
        rw [← step]
        simp only [callVE_fn, List.append_nil] at ga
        have HL' : ∀ o, (H.set 1 o)[h.length]? = some (boxL c) := fun o => by rw [List.getElem?_set_ne (by omega)]; exact HL
        have hw' : IntKind.i64.wrap ((pre.length : Int) + 1) = (pre.length : Int) + 1 := by rw [hw]; simp
        have hneq : h.length ≠ 1 := by omega
        generalize actF c.kind = fa at *
        clear hlen hH
        generalize h.length = q at *
        simp only [boxL, encL] at HL HL'
        simp only [encL] at ga
        simp [hf, G_journey_table_val, HL, HL', ixc, i2, ga, encL, hw', disjAll, disj2, wrOf, ap, idsOf, EF, hneq]
      · have hf' : (faultL j bg last c == 0) = false := by simpa using hf
        rw [if_neg hf]
        have l0 : 0 < H.length := by rw [hH]; simp
        have hrr := fun o => hr (H.set 0 o) pre.length (faultL j bg last c)
        have hset : (H.set 0 (.arr 9 [encJ zeroJ] true false))[0]? = some (.arr 9 [encJ zeroJ] true false) := List.getElem?_set_self l0
        have := hrr _ hset
        rw [← this]
        have z0 := H0
        simp only [encJ, zeroJ] at z0 ⊢
        simp [hf', buildK, fillA, stE, z0, ap]
end Go.AM


namespace Go.AM
open Go.Proofs
set_option linter.unusedVariables false
set_option linter.unusedSimpArgs false
set_option linter.constructorNameAsVariable false
set_option maxRecDepth 20000
def tupR (r : Jny × Int × Int) : AV := .tup [.agg (encJ r.1), I r.2.1, I r.2.2]
theorem runX_eq : ∀ (l : List Leg) (j : Jny) (bg : Bool) (last : Int) (i : Nat), runX (fun j => some (tupR (j, -1, 0))) (fun i e => some (tupR (zeroJ, i, e))) j bg last i l = some (tupR (runL j bg last i l))
  | [], _, _, _, _ => rfl
  | x :: l, j, bg, last, i => by
    rw [runX, runL]
    by_cases h : faultL j bg last x = 0
    · rw [if_pos h, if_pos h, runX_eq l]
    · rw [if_neg h, if_neg h]
theorem F_journey_Run_val (l : List Leg) (b : Bool) (hl : l.length < 1000000) (h : Hp) : F_journey_Run [.lst 5 b (l.map encL)] h = some (tupR (runS l), h) := by
  refine F_journey_Run_run rfl ?_ h
  unfold runS
  by_cases h1 : 128 < l.length
  · have h1' : (128 : Int) < (l.length : Int) := by omega
    rw [if_pos h1]
    simp [f_journey_Run, boxE, h1', buildK, fillA, stE, ap, tupR, encJ, zeroJ]
  · have h1' : ¬ (128 : Int) < (l.length : Int) := by omega
    rw [if_neg h1, ← runX_eq]
    have L := Run_L2 (N := NN) (x0 := fun w46_2 w46_5 h => f_journey_Run_j1 Try.prog t_journey_Run d_journey_Run NN (fun v g => cvt false g v) w46_2 w46_5 h) (xr := fun w47_2 w47_3 w47_4 h => ldK 9 true w47_2 h fun r48 => cvt false h (.tup [r48, w47_3, w47_4]))
      (X := fun j => some (tupR (j, -1, 0))) (Y := fun i e => some (tupR (zeroJ, i, e)))
      (fun h j h0 h1 => by
        have l0 : ∀ o : AObj, (h.set 0 o)[0]? = some o := fun o => List.getElem?_set_self (List.getElem?_eq_some_iff.1 h0).1
        simp only [encJ, zeroJ] at h0 h1
        generalize hq : h.set 0 = st at *
        simp [f_journey_Run_j1, h0, h1, stE, ap, tupR, encJ, l0, hq])
      (fun h i e h0 => by
        simp only [encJ, zeroJ] at h0
        simp [h0, tupR, encJ, zeroJ]) l b hl NN [] l zeroJ false 0 [.arr 9 [encJ zeroJ] true false, .arr 9 [encJ zeroJ] true false] rfl (by have := NN_ge; omega) invZ rfl rfl rfl
    rw [← show ((List.length ([] : List Leg) : Nat)) = 0 from rfl, ← L]
    simp [f_journey_Run, boxE, h1', encJ, zeroJ]
theorem F_journey_right_val (l : List Leg) (b : Bool) (hl : l.length < 1000000) (h : Hp) : F_journey_right [.lst 5 b (l.map encL)] h = some (B (okS l), h) := by
  refine F_journey_right_run rfl ?_ h
  have e : ((runS l).2.2 == 0) = okS l := by unfold okS; by_cases q : (runS l).2.2 = 0 <;> simp [q]
  simp [f_journey_right, F_journey_Run_val l b hl, tupR, boxE, stE, ap, encJ, e]
theorem journey_at_L2 {β : Type} {P : Program} {T : Tab} {D : DTab} {N : Nat} {x0 : AV → AV → AV → Hp → Option β} (l : List Leg) (b : Bool) (day : Int) (v4 : AV) (hl : l.length < 1000000) (h : Hp) :
    ∀ (n : Nat) (pre post : List Leg), l = pre ++ post → post.length < n →
    f_journey_at_L2 P T D N x0 n (.lst 5 b (l.map encL)) (I day) v4 (I pre.length) h = x0 (.lst 5 b (l.map encL)) v4 (I ((pre.length + (untilD post day).length : Nat) : Int)) h := by
  intro n
  induction n with
  | zero => intro pre post _ h2; omega
  | succ n ih =>
    intro pre post hc hn
    show f_journey_at_b2 P T D N (f_journey_at_L2 P T D N x0 n) x0 _ _ _ _ h = _
    cases post with
    | nil =>
      have : l = pre := by simpa using hc
      subst this
      simp [f_journey_at_b2, untilD]
    | cons c post =>
      have hi : pre.length < l.length := by rw [hc]; simp
      have hci : l[pre.length]? = some c := by rw [hc]; simp
      have hlt : ((pre.length : Int) < (l.length : Int)) := by omega
      have ic : ∀ k : Go.AM.K β, iaK 5 (.lst 5 b (l.map encL)) (I pre.length) k = k (.ep (encL c) 0) := fun k => iaK_at pre.length rfl hci k
      have hlen : lenK (.lst 5 b (l.map encL)) = fun k : Go.AM.K β => k (I l.length) := by funext k; simp
      have hw : IntKind.i64.wrap ((pre.length : Int) + 1) = (((pre ++ [c]).length : Nat) : Int) := by rw [wrap64 (by omega) (by omega)]; simp
      have step := ih (pre ++ [c]) post (by simpa using hc) (by simpa using hn)
      simp only [encL] at ic
      by_cases q : c.day ≤ day
      · have e : (untilD (c :: post) day).length = (untilD post day).length + 1 := by unfold untilD; rw [List.takeWhile_cons_of_pos (by simpa using q)]; rfl
        have e2 : (pre ++ [c]).length + (untilD post day).length = pre.length + (untilD (c :: post) day).length := by rw [e]; simp; omega
        rw [← e2, ← step]
        simp only [f_journey_at_b2, hlen, arithK_lss, hlt, decide_true]
        simp [encL, ic, q, hw]
      · have e : (untilD (c :: post) day).length = 0 := by unfold untilD; rw [List.takeWhile_cons_of_neg (by simpa using q)]; rfl
        rw [e, Nat.add_zero]
        simp only [f_journey_at_b2, hlen, arithK_lss, hlt, decide_true]
        simp [encL, ic, q]
theorem take_until (l : List Leg) (day : Int) : l.take (untilD l day).length = untilD l day := by
  obtain ⟨m, hm⟩ := until_pre l day
  conv => lhs; rw [show l.take (untilD l day).length = (untilD l day ++ m).take (untilD l day).length by rw [← hm]]
  simp
theorem until_len (l : List Leg) (day : Int) : (untilD l day).length ≤ l.length := by
  obtain ⟨m, hm⟩ := until_pre l day
  have := congrArg List.length hm
  rw [List.length_append] at this
  omega
theorem F_journey_at_val (l : List Leg) (b : Bool) (day : Int) (hok : okS l = true) (hl : l.length < 1000000) (h : Hp) : F_journey_at [.lst 5 b (l.map encL), I day] h = some (.agg (encJ (atL l day)), h) := by
  refine F_journey_at_run rfl ?_ h
  have hu := until_len l day
  have L := journey_at_L2 (P := Try.prog) (T := t_journey_at) (D := d_journey_at) (N := NN) (x0 := fun w27_0 w27_4 w27_5 h => f_journey_at_j1 Try.prog t_journey_at d_journey_at NN (fun v g => cvt false g v) w27_0 w27_4 w27_5 h) l b day (.ptr 0 0 0 1) hl [.arr 9 [encJ zeroJ] true false] NN [] l rfl (by have := NN_ge; omega)
  have sl : ∀ k : Go.AM.K AV, sliceK 5 (.lst 5 b (l.map encL)) none (some (I ((untilD l day).length : Int))) none k = k (.lst 5 b ((untilD l day).map encL)) := fun k => by
    rw [sliceK_take hu, take_until]
  have fr := F_journey_Run_val (untilD l day) b (by omega)
  rw [at_run hok day] at fr
  refine Eq.trans ?_ (L.trans ?_)
  · simp [f_journey_at, boxE, encJ, zeroJ]
  · simp only [List.length_nil, Nat.zero_add, f_journey_at_j1, sl]
    simp [fr, tupR, boxE, stE, ap, encJ, zeroJ]
theorem F_journey_At_val (l : List Leg) (b : Bool) (day : Int) (hl : l.length < 1000000) (h : Hp) : F_journey_At [.lst 5 b (l.map encL), I day] h = some (.tup [.agg (encJ (atS l day).1), I (atS l day).2], h) := by
  refine F_journey_At_run rfl ?_ h
  have fr := F_journey_right_val l b hl
  unfold atS
  cases hr : okS l with
  | false =>
    rw [hr] at fr
    simp [f_journey_At, boxE, fr, buildK, fillA, stE, ap, encJ, zeroJ]
  | true =>
    rw [hr] at fr
    have fa := F_journey_at_val l b day hr hl
    cases hw : win day 0 100000
    · simp [f_journey_At, boxE, fr, buildK, fillA, stE, ap, encJ, zeroJ, F_journey_in_val, hw]
    · simp only [encJ] at fa
      simp [f_journey_At, boxE, fr, stE, ap, encJ, F_journey_in_val, hw, fa]
end Go.AM


namespace Go.AM
open Go.Proofs
set_option linter.unusedVariables false
set_option linter.unusedSimpArgs false
set_option linter.constructorNameAsVariable false
set_option maxRecDepth 20000
end Go.AM


namespace Go.AM
open Go.Proofs
set_option linter.unusedVariables false
set_option linter.unusedSimpArgs false
set_option linter.constructorNameAsVariable false
set_option maxRecDepth 20000
end Go.AM


namespace Go.AM
open Go.Proofs
set_option linter.unusedVariables false
set_option linter.unusedSimpArgs false
set_option linter.constructorNameAsVariable false
set_option maxRecDepth 20000
end Go.AM


namespace Go.AM
open Go.Proofs
set_option linter.unusedVariables false
set_option linter.unusedSimpArgs false
set_option linter.constructorNameAsVariable false
set_option maxRecDepth 20000
end Go.AM


namespace Go.AM
open Go.Proofs
set_option linter.unusedVariables false
set_option linter.unusedSimpArgs false
set_option linter.constructorNameAsVariable false
set_option maxRecDepth 20000
structure Los where
  ev : Int
  op : Int
  df : Int
  su : Int
deriving DecidableEq
def encO (x : Los) : List AV := [I x.ev, I x.op, I x.df, I x.su]
def lossL (e f a o : Int) : Los := if e < f then ⟨0, 0, 0, f - e⟩ else ⟨min a (e - f), min o (e - f - min a (e - f)), e - f - min a (e - f) - min o (e - f - min a (e - f)), 0⟩
def alcL (n : Int) : Bool := win n 0 10737418240000
theorem loss_amount_L2 {β : Type} {P : Program} {T : Tab} {D : DTab} {N : Nat} {x0 : Hp → Option β} {xr : AV → Hp → Option β} (l : List Int) (b : Bool) (hl : l.length < 1000000) (h : Hp) : ∀ (n : Nat) (pre post : List Int), l = pre ++ post → post.length < n →
    f_loss_amount_L2 P T D N x0 xr n (.lst 1 b (l.map encI)) (I l.length) (I pre.length) h = if post.all alcL = true then x0 h else xr (B false) h := by
  intro n
  induction n with
  | zero => intro pre post _ h2; omega
  | succ n ih =>
    intro pre post hc hn
    show f_loss_amount_b2 P T D N (f_loss_amount_L2 P T D N x0 xr n) x0 xr _ _ _ h = _
    cases post with
    | nil =>
      have : l = pre := by simpa using hc
      subst this
      simp [f_loss_amount_b2]
    | cons c post =>
      have hi : pre.length < l.length := by rw [hc]; simp
      have hci : l[pre.length]? = some c := by rw [hc]; simp
      have hlt : ((pre.length : Int) < (l.length : Int)) := by omega
      have hw : IntKind.i64.wrap ((pre.length : Int) + 1) = (((pre ++ [c]).length : Nat) : Int) := by rw [wrap64 (by omega) (by omega)]; simp
      have ic : ∀ k : Go.AM.K β, iaK 1 (.lst 1 b (l.map encI)) (I pre.length) k = k (.ep (encI c) 0) := fun k => iaK_at pre.length rfl hci k
      have step := ih (pre ++ [c]) post (by simpa using hc) (by simpa using hn)
      simp only [f_loss_amount_b2, arithK_lss, hlt, decide_true, condK_bool, if_true, ic]
      rw [List.all_cons]
      by_cases q1 : c < 0
      · have : alcL c = false := by simp [alcL, win]; omega
        rw [this]; simp [encI, q1]
      · by_cases q2 : 10737418240000 < c
        · have : alcL c = false := by simp [alcL, win]; omega
          rw [this]; simp [encI, q1, q2]
        · have : alcL c = true := by simp [alcL, win]; omega
          rw [this, Bool.true_and, ← step]; simp [encI, q1, q2, hw]
theorem F_loss_amount_4 (a b c d : Int) (id : Nat) {h : Hp} (hid : h[id]? = some (.arr 1 [[I a], [I b], [I c], [I d]] true false)) : F_loss_amount [.sl 1 id 0 4 4 true] h = some (B (alcL a && (alcL b && (alcL c && alcL d))), h) := by
  refine F_loss_amount_own (a0 := .lst 1 false ([a, b, c, d].map encI)) (by simp [cvts, cvt, hid, okE, plain, encI]) (fun st => ?_)
  have L := loss_amount_L2 (P := Try.prog) (T := t_loss_amount) (D := d_loss_amount) (N := NN) (x0 := fun h => f_loss_amount_j1 Try.prog t_loss_amount d_loss_amount NN (fun v g => cvt st g v) h) (xr := fun w12_2 h => cvt st h w12_2) [a, b, c, d] false (by simp) [] NN [] [a, b, c, d] rfl (by have := NN_ge; simp; omega)
  refine Eq.trans ?_ (L.trans ?_)
  · simp [f_loss_amount]
  · have : [a, b, c, d].all alcL = (alcL a && (alcL b && (alcL c && alcL d))) := by simp
    rw [this]
    cases alcL a && (alcL b && (alcL c && alcL d)) <;> simp [f_loss_amount_j1]
theorem F_loss_split_val (e f a o : Int) (h1 : 0 ≤ e ∧ e ≤ 10737418240000) (h2 : 0 ≤ f ∧ f ≤ 10737418240000) (h3 : 0 ≤ a ∧ a ≤ 10737418240000) (h4 : 0 ≤ o ∧ o ≤ 10737418240000) (h : Hp) : F_loss_split [I e, I f, I a, I o] h = some (.agg (encO (lossL e f a o)), h) := by
  refine F_loss_split_run rfl ?_ h
  unfold lossL
  by_cases hc : e < f
  · have w : IntKind.i64.wrap (f - e) = f - e := wrap64 (by omega) (by omega)
    rw [if_pos hc]
    simp [f_loss_split, boxE, hc, w, buildK, fillA, stE, ap, encO]
  · have w : IntKind.i64.wrap (e - f) = e - f := wrap64 (by omega) (by omega)
    have w2 : IntKind.i64.wrap (e - f - min a (e - f)) = e - f - min a (e - f) := wrap64 (by omega) (by omega)
    have w3 : IntKind.i64.wrap (e - f - min a (e - f) - min o (e - f - min a (e - f))) = e - f - min a (e - f) - min o (e - f - min a (e - f)) := wrap64 (by omega) (by omega)
    rw [if_neg hc]
    simp [f_loss_split, boxE, hc, w, F_loss_split_1_raw, f_loss_split_1, w2, w3, buildK, fillA, stE, ap, encO]
theorem F_loss_Split_val (e f a o : Int) (h1 : 0 ≤ e ∧ e ≤ 10737418240000) (h2 : 0 ≤ f ∧ f ≤ 10737418240000) (h3 : 0 ≤ a ∧ a ≤ 10737418240000) (h4 : 0 ≤ o ∧ o ≤ 10737418240000) (h : Hp) : F_loss_Split [I e, I f, I a, I o] h = some (.tup [.agg (encO (lossL e f a o)), I 0], h) := by
  refine F_loss_Split_run rfl ?_ h
  have am := F_loss_amount_4 e f a o 1 (h := [.arr 4 [[I 0, I 0, I 0, I 0]] true false, .arr 1 [[I e], [I f], [I a], [I o]] true false]) rfl
  have hall : (alcL e && (alcL f && (alcL a && alcL o))) = true := by simp [alcL, win]; omega
  rw [hall] at am
  have fs := F_loss_split_val e f a o h1 h2 h3 h4
  simp only [encO] at fs ⊢
  simp [f_loss_Split, boxE, bsE, fillS, am, fs, stE, ap]
def zeroO : Los := ⟨0, 0, 0, 0⟩
noncomputable def claimS (l : List Leg) (t : List Allow) : Los × Int :=
  if okS l = false ∨ rightA t = false then (zeroO, 1) else if (runS l).1.endd = false then (zeroO, 11) else
    (lossL ((runS l).1.dep - (runS l).1.spl) (runS l).1.arr (allowedS t 9 ((runS l).1.dep - (runS l).1.spl) ((l.head?.map (·.day)).getD 0) ((l.getLast?.map (·.day)).getD 0)).1 0, 0)
theorem allowedS_bd {t : List Allow} {cls alc frm to : Int} (h : 0 ≤ alc) : 0 ≤ (allowedS t cls alc frm to).1 ∧ (allowedS t cls alc frm to).1 ≤ alc := by
  unfold allowedS
  split
  · exact ⟨Int.le_refl _, h⟩
  · rename_i hr
    split
    · exact ⟨Int.le_refl _, h⟩
    · rename_i hw
      split
      · exact ⟨Int.le_refl _, h⟩
      · have hr' : rightA t = true := by simpa using hr
        simp only [Bool.not_eq_false, Bool.and_eq_true, win, decide_eq_true_eq] at hw
        have hb := sumA_bd (rightA_ok hr').2.1 cls frm to (by omega)
        have : 0 ≤ alc * sumA t cls frm to / 1000000 := Int.ediv_nonneg (Int.mul_nonneg h hb.1) (by omega)
        dsimp only
        omega
theorem F_journey_Claim_val (l : List Leg) (t : List Allow) (b1 b2 : Bool) (hl : l.length < 1000000) (h : Hp) : F_journey_Claim [.lst 5 b1 (l.map encL), .lst 4 b2 (t.map encA)] h = some (.tup [.agg (encO (claimS l t).1), I (claimS l t).2], h) := by
  refine F_journey_Claim_run rfl ?_ h
  have fr := F_journey_Run_val l b1 hl
  have fc := F_season_Check_val t b2
  unfold claimS
  cases hr : okS l with
  | false =>
    obtain ⟨g1, g2⟩ := runS_err hr
    have g2' : ((runS l).2.2 == 0) = false := by simpa using g2
    simp only [tupR, g1, encJ, zeroJ] at fr
    rw [if_pos (.inl rfl)]
    simp [f_journey_Claim, boxE, stE, ap, fr, fc, g2', buildK, fillA, encO, zeroO]
  | true =>
    have hrun := okS_run hr
    have hinv := okL_inv l _ _ _ invZ (okS_ok hr).2
    rw [hrun] at fr ⊢
    simp only [tupR] at fr
    cases hc : rightA t with
    | false =>
      have g2' : ((checkA t).2 == 0) = false := by simpa [rightA] using hc
      rw [if_pos (.inr rfl)]
      simp only [encJ] at fr
      simp [f_journey_Claim, boxE, stE, ap, fr, fc, g2', buildK, fillA, encO, zeroO]
    | true =>
      have g2' : ((checkA t).2 == 0) = true := by simpa [rightA] using hc
      rw [if_neg (by simp)]
      cases he : (l.foldl actL zeroJ).endd with
      | false =>
        simp only [encJ, he] at fr
        simp [f_journey_Claim, boxE, stE, ap, fr, fc, g2', buildK, fillA, encO, zeroO]
      | true =>
        cases hll : l with
        | nil => rw [hll] at he; simp [zeroJ] at he
        | cons c tl =>
          rw [← hll]
          have hl0 : l.length ≠ 0 := by rw [hll]; simp
          have hc0 : l[0]? = some c := by rw [hll]; rfl
          have hhd : l.head? = some c := by rw [hll]; rfl
          obtain ⟨d, hd⟩ : ∃ d, l.getLast? = some d := by
            cases hx : l.getLast? with
            | none => rw [List.getLast?_eq_none_iff] at hx; rw [hx] at hll; simp at hll
            | some d => exact ⟨d, rfl⟩
          have hdi : l[l.length - 1]? = some d := by rw [← hd, List.getLast?_eq_getElem?]
          rw [hhd, hd]
          clear hll hhd hd
          obtain ⟨s1, s2, s3, s4, s5, s6, s7, s8⟩ := hinv
          have s7' := s7 he
          generalize l.foldl actL zeroJ = j at *
          obtain ⟨dep, spl, lost, arr, tra, frm, jto, halt, endd⟩ := j
          dsimp only at *
          subst he
          have w1 : IntKind.i64.wrap (dep - spl) = dep - spl := wrap64 (by omega) (by omega)
          have w2 : IntKind.i64.wrap ((l.length : Int) - 1) = (l.length : Int) - 1 := wrap64 (by omega) (by omega)
          have i0 : ∀ (k : Go.AM.K AV), iaK 5 (.lst 5 b1 (l.map encL)) (I 0) k = k (.ep (encL c) 0) := fun k => iaK_at 0 rfl hc0 k
          have i1 : ∀ (k : Go.AM.K AV), iaK 5 (.lst 5 b1 (l.map encL)) (I ((l.length : Int) - 1)) k = k (.ep (encL d) 0) := fun k => iaK_at (l.length - 1) (by omega) hdi k
          have ln : ∀ k : Go.AM.K AV, lenK (.lst 5 b1 (l.map encL)) k = k (I l.length) := fun k => by simp
          have fa := F_season_Allowed_val t b2 9 (dep - spl) c.day d.day
          have ab := allowedS_bd (t := t) (cls := 9) (frm := c.day) (to := d.day) (show 0 ≤ dep - spl by omega)
          simp only [Option.map_some, Option.getD_some]
          generalize (allowedS t 9 (dep - spl) c.day d.day).1 = n at *
          generalize (allowedS t 9 (dep - spl) c.day d.day).2 = er at *
          have fl := F_loss_Split_val (dep - spl) arr n 0 (by omega) (by omega) (by omega) (by omega)
          simp only [encL] at i0 i1
          simp only [encJ] at fr
          simp only [encO] at fl ⊢
          generalize l.map encL = L at *
          generalize (l.length : Int) = m at *
          simp [f_journey_Claim, boxE, stE, ap, fr, fc, g2', w1, w2, i0, i1, ln, fa, fl]
end Go.AM


namespace Go.AM
open Go.RowKit
set_option linter.unusedVariables false
def mu0 (w : World) : Mu := ⟨fun _ => .virt none, w, fun k => k < w.heap.size⟩
theorem rel0 (w : World) : Rel (mu0 w) [] w where
  obj := fun id o h => by simp at h
  sep := fun i j o p b x c y d h => by simp at h
  apart := fun i sz es nil b x c h => by simp at h
  imm := fun k hk => ⟨hk, rfl, fun ⟨id, o, off, c, h, _⟩ => by simp at h⟩
theorem own0 (w : World) (b : Nat) : ¬ Own (mu0 w) [] b := fun ⟨id, o, off, c, h, _⟩ => by simp at h
theorem below0 {w w' : World} {μ' : Mu} {h' : Hp} (s : Step (mu0 w) [] w μ' h' w') : Below w.heap.size w w' :=
  ⟨s.frame.os, s.frame.tape, s.frame.output, s.frame.size, fun k hk => s.frame.block k hk (own0 w k)⟩
theorem row_calls {P : Program} {f : FuncId} {F : Fun} {args : List AV} {h' : Hp} {b : Bool} {W : World} {cargs : Array Value} (hc : CSound P f F) (hF : F args [] = some (.s (.bool b), h')) (hv : VRs (mu0 W) [] args cargs.toList) :
    Calls P f cargs W fun e W' => e = .returned (.bool b) ∧ Below W.heap.size W W' := by
  refine (hc args [] _ h' hF (mu0 W) W cargs (rel0 W) hv).2.mono fun e W' => ?_
  rintro ⟨cv, μ', rfl, s, hr⟩
  simp only [VR] at hr
  exact ⟨by rw [hr.2], below0 s⟩

inductive Ty where
  | int (k : IntKind)
  | bool
  | str
  | sl (e : List Ty)
def tyFs (f : TypeId → Option (List Ty)) (size : TypeId → Nat) : List Field → Nat → Option (List Ty)
  | [], _ => some []
  | x :: l, pos => match f x.type, tyFs f size l (pos + size x.type) with
    | some a, some b => if x.offset = pos ∧ a.length = size x.type then some (a ++ b) else none
    | _, _ => none
def tyOf (P : Program) : Nat → TypeId → Option (List Ty)
  | 0, _ => none
  | n + 1, t => match P.underlying t with
    | some .bool => some [.bool]
    | some (.int k) => some [.int k]
    | some .string => some [.str]
    | some (.slice e) => match tyOf P n e with
      | some l => if l.length = P.cellsOf e ∧ 0 < l.length then some [.sl l] else none
      | none => none
    | some (.struct fs) => match tyFs (tyOf P n) P.cellsOf fs.toList 0 with
      | some l => if l.length = P.cellsOf t then some l else none
      | none => none
    | some (.array m e) => match tyOf P n e with
      | some l => if l.length = P.cellsOf e ∧ m * P.cellsOf e = P.cellsOf t then some (List.replicate m l).flatten else none
      | none => none
    | _ => none
mutual
def HasT : Ty → AV → Prop
  | .int k, a => ∃ n, a = .s (.int k n) ∧ (Lit.int k n).wf = true
  | .bool, a => ∃ b, a = .s (.bool b)
  | .str, a => ∃ s : ByteArray, a = .s (.string s) ∧ s.size ≤ maxLen
  | .sl ts, a => ∃ nil es, a = .lst ts.length nil es ∧ (nil = true → es = []) ∧ es.length ≤ maxLen ∧ ∀ e ∈ es, HasTs ts e
def HasTs : List Ty → List AV → Prop
  | [], asl => asl = []
  | t :: ts, asl => ∃ a as', asl = a :: as' ∧ HasT t a ∧ HasTs ts as'
end
theorem HasTs.app : ∀ {ts us : List Ty} {asl bs : List AV}, HasTs ts asl → HasTs us bs → HasTs (ts ++ us) (asl ++ bs)
  | [], us, asl, bs, h, k => by simp only [HasTs] at h; subst h; exact k
  | t :: ts, us, asl, bs, h, k => by
    simp only [HasTs] at h
    obtain ⟨a, as', rfl, h1, h2⟩ := h
    simp only [List.cons_append, HasTs]
    exact ⟨a, _, rfl, h1, HasTs.app h2 k⟩
theorem HasTs.len : ∀ {ts : List Ty} {asl : List AV}, HasTs ts asl → asl.length = ts.length
  | [], asl, h => by simp only [HasTs] at h; subst h; rfl
  | t :: ts, asl, h => by
    simp only [HasTs] at h
    obtain ⟨a, as', rfl, h1, h2⟩ := h
    simp [HasTs.len h2]
theorem HasT.ok : ∀ {t : Ty} {a : AV}, HasT t a → okC a = true
  | .int k, a, h => by simp only [HasT] at h; obtain ⟨n, rfl, _⟩ := h; rfl
  | .bool, a, h => by simp only [HasT] at h; obtain ⟨n, rfl⟩ := h; rfl
  | .str, a, h => by simp only [HasT] at h; obtain ⟨n, rfl, _⟩ := h; rfl
  | .sl ts, a, h => by simp only [HasT] at h; obtain ⟨n, es, rfl, _⟩ := h; rfl
theorem HasTs.ok : ∀ {ts : List Ty} {asl : List AV}, HasTs ts asl → ∀ x ∈ asl, okC x = true
  | [], asl, h, x, hx => by simp only [HasTs] at h; subst h; simp at hx
  | t :: ts, asl, h, x, hx => by
    simp only [HasTs] at h
    obtain ⟨a, as', rfl, h1, h2⟩ := h
    rcases List.mem_cons.1 hx with rfl | hx
    · exact h1.ok
    · exact h2.ok x hx
theorem VRs_app' {μ : Mu} {h : Hp} : ∀ {asl bs : List AV} {cs ds : List Value}, VRs μ h asl cs → VRs μ h bs ds → VRs μ h (asl ++ bs) (cs ++ ds)
  | [], bs, cs, ds, h1, h2 => by simp only [VRs] at h1; subst h1; exact h2
  | a :: asl, bs, cs, ds, h1, h2 => by
    simp only [VRs] at h1
    obtain ⟨v, vs, rfl, h3, h4⟩ := h1
    simp only [List.cons_append, VRs]
    exact ⟨v, _, rfl, h3, VRs_app' h4 h2⟩
section
variable {H : Type} {enc : TypeId × Value → H} {P : Program} {w : World} {base : Nat} {spare : Nat → Bool} {held : Bool}
def Opened (w : World) (ts : List Ty) (cs : List Value) : Prop := ∃ asl, HasTs ts asl ∧ VRs (mu0 w) [] asl cs ∧ ∀ u ∈ cs, u.oneCell' = true
theorem open_one {t : Ty} {u : Value} {a : AV} (h1 : HasT t a) (h2 : VR (mu0 w) [] a u) (h3 : u.oneCell' = true) : Opened w [t] [u] :=
  ⟨[a], by simp only [HasTs]; exact ⟨a, [], rfl, h1, rfl⟩, by simp only [VRs]; exact ⟨u, [], rfl, h2, rfl⟩, by simpa using h3⟩
theorem open_fs {f : TypeId → Option (List Ty)} {g : TypeId → List Value → Prop} {cs : List Value} (hg : ∀ t ts cs', f t = some ts → g t cs' → Opened w ts cs') : ∀ (l : List Field) (pos : Nat) (ts : List Ty), tyFs f P.cellsOf l pos = some ts →
    (∀ x ∈ l, g x.type ((cs.drop x.offset).take (P.cellsOf x.type))) → Opened w ts ((cs.drop pos).take ts.length)
  | [], pos, ts, h, _ => by
    simp only [tyFs, Option.some.injEq] at h
    subst h
    exact ⟨[], rfl, rfl, by simp⟩
  | x :: l, pos, ts, h, hx => by
    simp only [tyFs] at h
    split at h
    · rename_i a b h1 h2
      split at h
      · rename_i hc
        simp only [Option.some.injEq] at h
        subst h
        obtain ⟨h3, h4⟩ := hc
        obtain ⟨asl, p1, p2, p3⟩ := hg _ _ _ h1 (hx x (by simp))
        obtain ⟨bs, q1, q2, q3⟩ := open_fs hg l _ b h2 (fun y hy => hx y (by simp [hy]))
        have e : (cs.drop pos).take (a ++ b).length = (cs.drop x.offset).take (P.cellsOf x.type) ++ (cs.drop (pos + P.cellsOf x.type)).take b.length := by
          rw [List.length_append, h4, h3, ← List.drop_drop, List.take_add]
        rw [e]
        refine ⟨asl ++ bs, p1.app q1, VRs_app' p2 q2, ?_⟩
        intro u hu
        rcases List.mem_append.1 hu with hu | hu
        · exact p3 u hu
        · exact q3 u hu
      · simp at h
    · simp at h
theorem open_arr {ts : List Ty} {sz : Nat} {cs : List Value} : ∀ (n i0 : Nat), (∀ i, i < n → Opened w ts ((cs.drop ((i0 + i) * sz)).take sz)) → Opened w (List.replicate n ts).flatten ((cs.drop (i0 * sz)).take (n * sz))
  | 0, i0, _ => ⟨[], rfl, by simp [VRs], by simp⟩
  | n + 1, i0, h => by
    obtain ⟨asl, p1, p2, p3⟩ := h 0 (by omega)
    obtain ⟨bs, q1, q2, q3⟩ := open_arr n (i0 + 1) (fun i hi => by have := h (i + 1) (by omega); rwa [show i0 + (i + 1) = i0 + 1 + i by omega] at this)
    have e : (cs.drop (i0 * sz)).take ((n + 1) * sz) = (cs.drop (i0 * sz)).take sz ++ (cs.drop ((i0 + 1) * sz)).take (n * sz) := by
      rw [show (n + 1) * sz = sz + n * sz by rw [Nat.add_mul]; omega, show (i0 + 1) * sz = i0 * sz + sz by rw [Nat.add_mul]; omega, ← List.drop_drop, List.take_add]
    rw [e, List.replicate_succ, List.flatten_cons]
    refine ⟨asl ++ bs, p1.app q1, VRs_app' p2 q2, ?_⟩
    intro u hu
    rcases List.mem_append.1 hu with hu | hu
    · exact p3 u hu
    · exact q3 u hu
theorem open_es {ts : List Ty} {sz b : Nat} (hts : ts.length = sz) : ∀ (n o : Nat), (∀ i, i < n → ∃ cs, Opened w ts cs ∧ cs.length = sz ∧ ∀ j u, cs[j]? = some u → w.cell? ⟨b, o + i * sz + j, none⟩ = some u) →
    ∃ es vs, es.length = n ∧ (∀ e ∈ es, HasTs ts e) ∧ VRf (mu0 w) [] es vs ∧ ∀ j u, vs[j]? = some u → w.cell? ⟨b, o + j, none⟩ = some u ∧ u.oneCell' = true
  | 0, o, h => ⟨[], [], rfl, by simp, rfl, by simp⟩
  | n + 1, o, h => by
    obtain ⟨cs, ⟨asl, h1, h2, h3⟩, h4, h5⟩ := h 0 (by omega)
    obtain ⟨es, vs, k1, k2, k3, k4⟩ := open_es hts n (o + sz) (fun i hi => by
      obtain ⟨cs', q1, q2, q3⟩ := h (i + 1) (by omega)
      refine ⟨cs', q1, q2, fun j u hu => ?_⟩
      rw [← q3 j u hu]
      congr 2
      rw [Nat.add_mul]; omega)
    refine ⟨asl :: es, cs ++ vs, by simp [k1], ?_, ?_, ?_⟩
    · intro e he
      rcases List.mem_cons.1 he with rfl | he
      · exact h1
      · exact k2 e he
    · simp only [VRf]; exact ⟨cs, vs, rfl, h2, k3⟩
    · intro j u hj
      by_cases hlt : j < cs.length
      · rw [List.getElem?_append_left hlt] at hj
        have := h5 j u hj
        exact ⟨by simpa using this, h3 u (List.mem_of_getElem? hj)⟩
      · rw [List.getElem?_append_right (by omega)] at hj
        have := k4 _ _ hj
        rw [show o + sz + (j - cs.length) = o + j by omega] at this
        exact this
theorem cell_lt {a : Addr} {v : Value} (h : w.cell? a = some v) : a.block < w.heap.size := by
  rcases Nat.lt_or_ge a.block w.heap.size with h1 | h1
  · exact h1
  · have : w.heap[a.block]? = none := by simpa using h1
    simp [World.cell?, this] at h
theorem open_cells : ∀ (fuel n : Nat) (t : TypeId) (ts : List Ty) (cs : List Value) (x : DataW H × List MemPlace), tyOf P n t = some ts → DataW.trod enc P w base spare held fuel t cs = some x → Opened w ts cs
  | 0, n, t, ts, cs, x, _, h => by simp [DataW.trod] at h
  | fuel + 1, 0, t, ts, cs, x, h0, _ => by simp [tyOf] at h0
  | fuel + 1, n + 1, t, ts, cs, x, h0, h => by
    unfold tyOf at h0
    cases hu : P.underlying t with
    | none => rw [hu] at h0; simp at h0
    | some T =>
      rw [hu] at h0
      cases T with
      | bool =>
        simp only [Option.some.injEq] at h0
        subst h0
        obtain ⟨b, rfl, _⟩ := DataW.trod_bool hu h
        exact open_one (a := .s (.bool b)) (by simp [HasT]) (by simp [VR, gv]) rfl
      | int k =>
        simp only [Option.some.injEq] at h0
        subst h0
        obtain ⟨m, rfl, _, hw⟩ := DataW.trod_int hu h
        exact open_one (a := .s (.int k m)) (by simp [HasT, hw]) (by simp [VR, gv]) rfl
      | string =>
        simp only [Option.some.injEq] at h0
        subst h0
        obtain ⟨s, rfl, _, hs⟩ := DataW.trod_string hu h
        exact open_one (a := .s (.string s)) (by simp [HasT, hs]) (by simp [VR, gv]) rfl
      | slice e =>
        simp only at h0
        cases he : tyOf P n e with
        | none => rw [he] at h0; simp at h0
        | some l =>
          rw [he] at h0
          simp only at h0
          split at h0
          · rename_i hl
            simp only [Option.some.injEq] at h0
            subst h0
            rcases DataW.trod_slice hu h with ⟨rfl, _⟩ | ⟨a, len, cap, elems, rest, m, hm, rfl, _, hb, h1, h2, h3, h4, _, _⟩
            · refine open_one (a := .lst l.length true []) ?_ ?_ rfl
              · simp only [HasT]; exact ⟨true, [], rfl, fun _ => rfl, by simp, by simp⟩
              · simp only [VR]
                exact ⟨none, 0, rfl, by simp, by simp, rfl, fun _ => rfl, by simp, by simp⟩
            · have hm' : m = fuel := by omega
              subst hm'
              have cell : ∀ i, i < len → ∃ cs, Opened w l cs ∧ cs.length = P.cellsOf e ∧ ∀ j, j < P.cellsOf e → w.cell? ((a.add (i * P.cellsOf e)).add j) = cs[j]? := by
                intro i hi
                have hi' := h4 i hi
                rw [List.getElem?_eq_getElem (by omega), Option.bind_eq_some_iff] at hi'
                obtain ⟨cs, q1, q2⟩ := hi'
                have q3 := World.cells?_some q1
                exact ⟨cs, open_cells m n e l cs _ he q2, q3.2.1, q3.2.2⟩
              obtain ⟨b, off, spot⟩ := a
              have hsp : len ≠ 0 → spot = none := fun hn => by
                obtain ⟨cs, _, q2, q3⟩ := cell 0 (by omega)
                have q4 := q3 0 (by omega)
                rw [List.getElem?_eq_getElem (by omega)] at q4
                simpa [Addr.add] using World.cell?_spot q4
              by_cases hn : len = 0
              · subst hn
                refine open_one (a := .lst l.length false []) ?_ ?_ rfl
                · simp only [HasT]; exact ⟨false, [], rfl, fun _ => rfl, by simp, by simp⟩
                · simp only [VR]
                  exact ⟨_, cap, rfl, by simp, h2, rfl, by simp, by simp, by simp⟩
              · have hs := hsp hn
                subst hs
                obtain ⟨es, vs, k1, k2, k3, k4⟩ := open_es (w := w) (ts := l) (sz := P.cellsOf e) (b := b) hl.1 len off (fun i hi => by
                  obtain ⟨cs, q1, q2, q3⟩ := cell i hi
                  refine ⟨cs, q1, q2, fun j u hj => ?_⟩
                  have hjl := (List.getElem?_eq_some_iff.1 hj).1
                  have := q3 j (by omega)
                  rw [hj] at this
                  rw [← this, Go.WideShapes.add_plain, Go.WideShapes.add_plain])
                refine open_one (a := .lst l.length false es) ?_ ?_ rfl
                · simp only [HasT]; exact ⟨false, es, rfl, by simp, by omega, k2⟩
                · simp only [VR]
                  refine ⟨_, cap, by rw [k1], by omega, h2, rfl, by simp, fun e' he' => ⟨(k2 e' he').len, (k2 e' he').ok⟩, fun _ => ⟨b, off, vs, rfl, ?_, k3, k4⟩⟩
                  obtain ⟨cs, q1, q2, q3⟩ := cell 0 (by omega)
                  have q4 := q3 0 (by omega)
                  rw [List.getElem?_eq_getElem (by omega)] at q4
                  show b < w.heap.size
                  rw [Go.WideShapes.add_plain, Go.WideShapes.add_plain] at q4
                  exact cell_lt q4
          · simp at h0
      | struct fs =>
        simp only at h0
        cases he : tyFs (tyOf P n) P.cellsOf fs.toList 0 with
        | none => rw [he] at h0; simp at h0
        | some l =>
          rw [he] at h0
          simp only at h0
          split at h0
          · rename_i hl
            simp only [Option.some.injEq] at h0
            subst h0
            obtain ⟨xs, m, hm, _, h2, h3, h4⟩ := DataW.trod_struct hu h
            have hm' : m = fuel := by omega
            subst hm'
            have := open_fs (w := w) (P := P) (f := tyOf P n) (g := fun t cs' => ∃ y, DataW.trod enc P w base spare held m t cs' = some y) (cs := cs) (fun t ts cs' q1 ⟨y, q2⟩ => open_cells m n t ts cs' y q1 q2) fs.toList 0 l he (fun y hy => by
              obtain ⟨i, hi⟩ := List.getElem?_of_mem hy
              have hi2 : fs[i]? = some y := by simpa using hi
              have := h4 i y hi2
              have hlt : i < xs.length := by rw [h3]; exact (Array.getElem?_eq_some_iff.1 hi2).1
              rw [List.getElem?_eq_getElem hlt] at this
              exact ⟨_, this⟩)
            rw [List.drop_zero, hl, ← h2, List.take_length] at this
            exact this
          · simp at h0
      | array k e =>
        simp only at h0
        cases he : tyOf P n e with
        | none => rw [he] at h0; simp at h0
        | some l =>
          rw [he] at h0
          simp only at h0
          split at h0
          · rename_i hl
            simp only [Option.some.injEq] at h0
            subst h0
            obtain ⟨xs, m, hm, _, h2, h3, h4⟩ := DataW.trod_array hu h
            have hm' : m = fuel := by omega
            subst hm'
            have := open_arr (w := w) (ts := l) (sz := P.cellsOf e) (cs := cs) k 0 (fun i hi => by
              have h5 := h4 i hi
              rw [List.getElem?_eq_getElem (by omega)] at h5
              have h6 := open_cells m n e l _ _ he h5
              rwa [Nat.zero_add])
            rw [Nat.zero_mul, List.drop_zero, hl.2, ← h2, List.take_length] at this
            exact this
          · simp at h0
      | _ => simp at h0
theorem open_cell {t : TypeId} {v : Value} {d : DataW H} {ps : List MemPlace} {n : Nat} {ty : Ty} (hv : v.cells = #[v]) (ht : tyOf P n t = some [ty]) (hd : DataW.Trod enc P w base spare held t v d ps) : ∃ a, HasT ty a ∧ VR (mu0 w) [] a v := by
  obtain ⟨fuel, hf⟩ := hd
  rw [hv] at hf
  obtain ⟨asl, h1, h2, _⟩ := open_cells fuel n t [ty] _ _ ht hf
  simp only [HasTs] at h1
  obtain ⟨a, as', rfl, h1, rfl⟩ := h1
  simp only [VRs] at h2
  obtain ⟨v', vs', h3, h4, _⟩ := h2
  simp at h3
  exact ⟨a, h1, by rw [h3.1]; exact h4⟩
end
theorem has_list {α : Type} {ts : List Ty} {f : α → List AV} (hf : ∀ cs, HasTs ts cs → ∃ x, cs = f x) {a : AV} (h : HasT (.sl ts) a) : ∃ (l : List α) (b : Bool), a = .lst ts.length (b && l.isEmpty) (l.map f) := by
  simp only [HasT] at h
  obtain ⟨nil, es, rfl, hn, hm, he⟩ := h
  have : ∃ l : List α, es = l.map f := by
    clear hn hm
    induction es with
    | nil => exact ⟨[], rfl⟩
    | cons e es ih =>
      obtain ⟨x, hx⟩ := hf e (he e (by simp))
      obtain ⟨l, hl⟩ := ih (fun e' h' => he e' (by simp [h']))
      exact ⟨x :: l, by simp [hx, hl]⟩
  obtain ⟨l, rfl⟩ := this
  refine ⟨l, nil, ?_⟩
  cases nil with
  | false => rfl
  | true =>
    have : l = [] := by simpa using hn rfl
    subst this; rfl
end Go.AM


namespace Go.AM
open Go.Proofs
set_option linter.unusedVariables false
set_option linter.unusedSimpArgs false
set_option linter.constructorNameAsVariable false
set_option maxRecDepth 20000
abbrev NL := Bool × List Leg
abbrev encN (p : NL) : List AV := [.lst 5 p.1 (p.2.map encL)]
section
variable {β : Type} {P : Program} {T : Tab} {D : DTab} {N : Nat} {K : AV → Hp → Option β}
theorem IndexFunc_Leg_L2 {x0 : Hp → Option β} {xr : AV → Hp → Option β} {l : List NL} {b : Bool} {fv : AV} {h : Hp} {p : NL → Bool} (hl : l.length < 4611686018427387904) (hp : ∀ x ∈ l, ∀ k : AV → Hp → Option β, callVK T fv [.lst 5 x.1 (x.2.map encL)] h k = k (B (p x)) h) :
    ∀ (n i : Nat), i ≤ l.length → l.length < i + n → f_slices_IndexFunc_Leg_L2 P T D N x0 xr n (.lst 1 b (l.map encN)) fv (I l.length) (I i) h = match (l.drop i).findIdx? p with | some j => xr (I ((i + j : Nat) : Int)) h | none => x0 h := by
  intro n
  induction n with
  | zero => intro i h1 h2; omega
  | succ n ih =>
    intro i h1 h2
    show f_slices_IndexFunc_Leg_b2 P T D N (f_slices_IndexFunc_Leg_L2 P T D N x0 xr n) x0 xr _ _ _ _ h = _
    unfold f_slices_IndexFunc_Leg_b2
    rcases Nat.lt_or_ge i l.length with hi | hi
    · have hx : l[i]? = some l[i] := List.getElem?_eq_getElem hi
      have hlt : ((i : Int) < (l.length : Int)) := by omega
      have hw : IntKind.i64.wrap ((i : Int) + 1) = ((i + 1 : Nat) : Int) := by rw [wrap64 (by omega) (by omega)]; omega
      have hpx := hp l[i] (List.getElem_mem hi)
      rw [List.drop_eq_getElem_cons hi, List.findIdx?_cons]
      simp [hlt, hx, hw, encN] at hpx ⊢
      rw [hpx]
      cases hc : p l[i] with
      | true => simp
      | false =>
        have h3 := ih (i + 1) hi (by omega)
        rw [show ((i : Int) + 1) = ((i + 1 : Nat) : Int) by omega]
        simp only [Bool.false_eq_true, if_false]
        refine h3.trans ?_
        cases (List.drop (i + 1) l).findIdx? p with
        | none => rfl
        | some j =>
          show xr (I ((i + 1 + j : Nat) : Int)) h = xr (I ((i + (j + 1) : Nat) : Int)) h
          rw [show i + 1 + j = i + (j + 1) by omega]
    · have : i = l.length := by omega
      subst this
      simp
theorem IndexFunc_Leg_K {l : List NL} {b : Bool} {fv : AV} {h : Hp} {p : NL → Bool} {K : AV → Hp → Option β} (hl : l.length < N) (hN : N < 4611686018427387904) (hp : ∀ x ∈ l, ∀ k : AV → Hp → Option β, callVK T fv [.lst 5 x.1 (x.2.map encL)] h k = k (B (p x)) h) :
    f_slices_IndexFunc_Leg P T D N K (.lst 1 b (l.map encN)) fv h = K (I (match l.findIdx? p with | some j => (j : Int) | none => -1)) h := by
  unfold f_slices_IndexFunc_Leg
  simp only [lenK_lst, List.length_map]
  have := IndexFunc_Leg_L2 (P := P) (D := D) (N := N) (b := b) (x0 := fun h => f_slices_IndexFunc_Leg_j1 P T D N K h) (xr := fun a h => K a h) (by omega) hp N 0 (Nat.zero_le _) (by omega)
  simp only [List.drop_zero] at this
  refine this.trans ?_
  cases l.findIdx? p with
  | none => rfl
  | some j => simp
end
theorem F_journey_Transit_1_val (l : List Leg) (b : Bool) (hl : l.length < 1000000) (h : Hp) : F_journey_Transit_1 [.lst 5 b (l.map encL)] h = some (B (!okS l), h) := F_journey_Transit_1_run rfl (by simp [f_journey_Transit_1, F_journey_right_val l b hl]) h
theorem F_Contains_right (ls : List NL) (hl : ls.length < 1000) (hb : ∀ p ∈ ls, p.2.length < 1000000) (b : Bool) (h : Hp) : F_slices_ContainsFunc_Leg__journey_Transit_1 [.lst 1 b (ls.map encN), .fn 29 []] h = some (B (ls.any fun p => !okS p.2), h) := by
  have e : ∀ h, F_slices_IndexFunc_Leg__journey_Transit_1 [.lst 1 b (ls.map encN), .fn 29 []] h = some (I (match ls.findIdx? (fun p => !okS p.2) with | some j => (j : Int) | none => -1), h) :=
    F_slices_IndexFunc_Leg__journey_Transit_1_run rfl (by
      simp only [nrm, nrmC]
      rw [IndexFunc_Leg_K (p := fun p => !okS p.2) (by have := NN_ge; omega) NN_lt (fun x hx k => by simp [F_journey_Transit_1_val x.2 x.1 (hb x hx)])]
      rfl)
  refine F_slices_ContainsFunc_Leg__journey_Transit_1_run rfl ?_ h
  simp only [nrm, nrmC, f_slices_ContainsFunc_Leg, t_slices_ContainsFunc_Leg__journey_Transit_1_28, callK_F, e]
  have : (ls.any fun p => !okS p.2) = (ls.findIdx? (fun p => !okS p.2)).isSome := by rw [List.findIdx?_isSome]
  rw [this]
  cases ls.findIdx? (fun p => !okS p.2) <;> simp
def sumT (day : Int) : List NL → Int
  | [] => 0
  | p :: ls => (atL p.2 day).tra + sumT day ls
theorem tra_bd {l : List Leg} (h : okS l = true) (day : Int) : 0 ≤ (atL l day).tra ∧ (atL l day).tra ≤ 10737418240000 := by
  obtain ⟨s1, s2, s3, s4, s5, s6, s7, s8⟩ := at_inv h day
  omega
theorem Transit_L2 {β : Type} {N : Nat} {D : DTab} {x0 : AV → Hp → Option β} (ls : List NL) (b : Bool) (day : Int) (hl : ls.length < 1000) (hb : ∀ p ∈ ls, p.2.length < 1000000) (hok : ∀ p ∈ ls, okS p.2 = true) (h : Hp) : ∀ (n : Nat) (pre post : List NL) (acc : Int), ls = pre ++ post → post.length < n → 0 ≤ acc ∧ acc ≤ 10737418240000 * pre.length →
    f_journey_Transit_L2 Try.prog t_journey_Transit D N x0 n (I day) (I acc) (.lst 1 b (ls.map encN)) (I ls.length) (I pre.length) h = x0 (I (acc + sumT day post)) h := by
  intro n
  induction n with
  | zero => intro pre post acc _ h2; omega
  | succ n ih =>
    intro pre post acc hc hn ha
    show f_journey_Transit_b2 Try.prog t_journey_Transit D N (f_journey_Transit_L2 Try.prog t_journey_Transit D N x0 n) x0 _ _ _ _ _ h = _
    cases post with
    | nil =>
      have : ls = pre := by simpa using hc
      subst this
      simp [f_journey_Transit_b2, sumT]
    | cons c post =>
      have hi : pre.length < ls.length := by rw [hc]; simp
      have hci : ls[pre.length]? = some c := by rw [hc]; simp
      have hcm : c ∈ ls := by rw [hc]; simp
      have hlt : ((pre.length : Int) < (ls.length : Int)) := by omega
      have hw : IntKind.i64.wrap ((pre.length : Int) + 1) = (((pre ++ [c]).length : Nat) : Int) := by rw [wrap64 (by omega) (by omega)]; simp
      have ic : ∀ k : Go.AM.K β, iaK 1 (.lst 1 b (ls.map encN)) (I pre.length) k = k (.ep (encN c) 0) := fun k => iaK_at pre.length rfl hci k
      have fa := F_journey_at_val c.2 c.1 day (hok c hcm) (hb c hcm)
      have tb := tra_bd (hok c hcm) day
      have w1 : IntKind.i64.wrap (acc + (atL c.2 day).tra) = acc + (atL c.2 day).tra := wrap64 (by omega) (by omega)
      have step := ih (pre ++ [c]) post (acc + (atL c.2 day).tra) (by simpa using hc) (by simpa using hn) (by simp; omega)
      rw [sumT, ← Int.add_assoc, ← step]
      simp only [f_journey_Transit_b2, arithK_lss, hlt, decide_true, condK_bool, if_true, ic]
      have ldc : ∀ k : Go.AM.K β, ldK 1 false (.ep (encN c) 0) h k = k (.lst 5 c.1 (c.2.map encL)) := fun k => by simp
      have f4 : ∀ k : Go.AM.K β, fldK 1 false 4 (.agg (encJ (atL c.2 day))) k = k (I (atL c.2 day).tra) := fun k => rfl
      rw [ldc, t_journey_Transit_32, callK_F, fa]
      simp only [f4, arithK_add, w1, hw]
def transS (ls : List NL) (day : Int) : Int × Int :=
  if 16 < ls.length then (0, 8) else if (ls.any fun p => !okS p.2) = true then (0, 1) else if win day 0 100000 = false then (0, 2) else (sumT day ls, 0)
theorem Transit_run (ls : List NL) (b : Bool) (day : Int) (hl : ls.length < 1000) (hb : ∀ p ∈ ls, p.2.length < 1000000) (st : Bool) : f_journey_Transit Try.prog t_journey_Transit d_journey_Transit NN (fun v g => cvt st g v) (.lst 1 b (ls.map encN)) (I day) [] = some (.tup [I (transS ls day).1, I (transS ls day).2]) := by
  unfold transS
  have fc := F_Contains_right ls hl hb b
  have ln : ∀ k : Go.AM.K AV, lenK (.lst 1 b (ls.map encN)) k = k (I ls.length) := fun k => by simp
  by_cases h1 : 16 < ls.length
  · have h1' : (16 : Int) < (ls.length : Int) := by omega
    rw [if_pos h1]
    simp only [f_journey_Transit, ln]
    simp [h1']
  · have h1' : ¬ (16 : Int) < (ls.length : Int) := by omega
    rw [if_neg h1]
    cases h2 : (ls.any fun p => !okS p.2) with
    | true =>
      rw [h2] at fc
      simp only [f_journey_Transit, ln]
      generalize ls.map encN = L at *
      simp [h1', fc]
    | false =>
      rw [h2] at fc
      have hok : ∀ p ∈ ls, okS p.2 = true := by simpa using h2
      cases h3 : win day 0 100000
      · simp only [f_journey_Transit, ln]
        generalize ls.map encN = L at *
        simp [h1', fc, F_journey_in_val, h3]
      · have L := Transit_L2 (N := NN) (D := d_journey_Transit) (x0 := fun w17_6 h => f_journey_Transit_j1 Try.prog t_journey_Transit d_journey_Transit NN (fun v g => cvt st g v) w17_6 h) ls b day hl hb hok [] NN [] ls 0 rfl (by have := NN_ge; omega) (by simp)
        simp only [f_journey_Transit, ln]
        generalize ls.map encN = LL at *
        simp [h1', fc, F_journey_in_val, h3]
        refine L.trans ?_
        simp [f_journey_Transit_j1]
end Go.AM


namespace Go.AM
open Go.Proofs
set_option linter.unusedVariables false
set_option linter.unusedSimpArgs false
set_option linter.constructorNameAsVariable false
set_option maxRecDepth 20000
section
variable {β : Type} {P : Program} {T : Tab} {D : DTab} {N : Nat} {K : AV → Hp → Option β}
abbrev SL {α : Type} (sz : Nat) (f : α → List AV) (b : Bool) (l : List α) : AV := .lst sz (b && l.isEmpty) (l.map f)
theorem F_slices_Clone_Leg_val (l : List Leg) (b : Bool) (hl : l.length < 1000000) (h : Hp) : F_slices_Clone_Leg [SL 5 encL b l] h = some (SL 5 encL b l, h) := by
  refine (F_slices_Clone_Leg_run (v := if b && l.isEmpty then nilS else SL 5 encL b l) rfl ?_ h).trans ?_
  · by_cases hb : (b && l.isEmpty) = true
    · simp [f_slices_Clone_Leg, hb]
    · have hb' : (b && l.isEmpty) = false := by simpa using hb
      have hle : l.length * 40 ≤ 140737488355328 := by omega
      have h2 : ((l.map encL).all fun e => e.length == 5) = true := by simp [encL]
      have h3 : okE false (l.map encL) = true := okE_map (by intro x; simp [encL])
      simp [f_slices_Clone_Leg, hb', bsE, fillS, appE, readSl, hle, h2, ap]
      rw [cvt_whole rfl (by simp) (by simp) h3, SL, hb']
  · by_cases hb : (b && l.isEmpty) = true
    · obtain ⟨rfl, hl0⟩ := Bool.and_eq_true_iff.1 hb
      have : l = [] := by simpa using hl0
      subst this
      rfl
    · rw [if_neg hb]
      rfl
end
abbrev exL : List Leg := [⟨10, 1, 1, 2, 1000⟩, ⟨12, 2, 5, 0, 0⟩, ⟨15, 3, 0, 0, 0⟩, ⟨16, 4, 0, 3, 0⟩, ⟨20, 7, 3, 0, 950⟩]
theorem F_law45_example_val (h : Hp) : F_law45_example [] h = some (.lst 5 false (exL.map encL), h) := by
  refine (F_law45_example_run (v := .lst 5 false (exL.map encL)) rfl ?_ h).trans rfl
  simp [f_law45_example, buildK, fillA, bsE, fillS, encL]
  try rfl
abbrev exT : List Allow := [⟨0, 9, 1, 1000⟩]
theorem F_law45_table_val (h : Hp) : F_law45_table [] h = some (.lst 4 false (exT.map encA), h) := by
  refine (F_law45_table_run (v := .lst 4 false (exT.map encA)) rfl ?_ h).trans rfl
  simp [f_law45_table, buildK, fillA, bsE, fillS, encA]
  try rfl
theorem ex_ok : okS exL = true := by decide
theorem days_L (T : Tab) (D : DTab) (N n : Nat) : f_journey_Days_L4 Try.prog T D N (fun w52_0 w52_7 w52_8 w52_9 h => f_journey_Days_j3 Try.prog T D N (fun v g => cvt false g v) w52_0 w52_7 w52_8 w52_9 h) (n + 6) (.lst 5 false (exL.map encL)) (I 100) (I 100) (I 0) (I (-1)) (.lst 5 false (exL.map encL)) (I 5) (I 0) [] = some (.tup [I 10, I 3, I 0]) := by kernel_rfl
theorem F_days_ex (h : Hp) : F_journey_Days [.lst 5 false (exL.map encL), I 100] h = some (.tup [I 10, I 3, I 0], h) := by
  refine F_journey_Days_run rfl ?_ h
  have fr := F_journey_right_val exL false (by decide)
  rw [ex_ok] at fr
  obtain ⟨n, hn⟩ : ∃ n, NN = n + 6 := ⟨NN - 6, by have := NN_ge; omega⟩
  refine Eq.trans ?_ (days_L t_journey_Days d_journey_Days NN n)
  rw [← hn]
  have w : win 100 0 100000 = true := rfl
  simp [encL] at fr
  have i0 : ∀ k : Go.AM.K AV, iaK 5 (.lst 5 false [[I 10, I 1, I 1, I 2, I 1000], [I 12, I 2, I 5, I 0, I 0], [I 15, I 3, I 0, I 0, I 0], [I 16, I 4, I 0, I 3, I 0], [I 20, I 7, I 3, I 0, I 950]]) (I 0) k = k (.ep [I 10, I 1, I 1, I 2, I 1000] 0) := fun k => rfl
  simp [f_journey_Days, fr, F_journey_in_val, w, encL, i0]
theorem msgs_L (T : Tab) (D : DTab) (N n : Nat) : ∃ ms : List (List AV), ms.length = 4 ∧ f_journey_Messages_L2 Try.prog T D N (fun w92_6 h => f_journey_Messages_j1 Try.prog T D N (fun v g => cvt false g v) w92_6 h) (n + 6) (I 7) nilS (I 0) (.lst 5 false (exL.map encL)) (I 5) (I 0) [] = some (.tup [.lst 7 false ms, I 0]) :=
  ⟨[[I 7, I 1, I 0, I 10, I 1, I 2, I 1000], [I 7, I 2, I 1, I 16, I 0, I 3, I 0], [I 7, I 3, I 0, I 20, I 0, I 0, I 950], [I 7, I 5, I 0, I 20, I 0, I 0, I 0]], rfl, by kernel_rfl⟩
theorem F_msgs_ex (h : Hp) : ∃ ms : List (List AV), ms.length = 4 ∧ ∀ h, F_journey_Messages [.lst 5 false (exL.map encL), I 7] h = some (.tup [.lst 7 false ms, I 0], h) := by
  have fr := F_journey_right_val exL false (by decide)
  rw [ex_ok] at fr
  obtain ⟨n, hn⟩ : ∃ n, NN = n + 6 := ⟨NN - 6, by have := NN_ge; omega⟩
  obtain ⟨ms, hm, e⟩ := msgs_L t_journey_Messages d_journey_Messages NN n
  refine ⟨ms, hm, fun h => ?_⟩
  refine (F_journey_Messages_run (v := .tup [.lst 7 false ms, I 0]) rfl ?_ h).trans rfl
  refine Eq.trans ?_ e
  rw [← hn]
  have w : win 7 1 1073741824 = true := rfl
  simp [encL] at fr
  simp [f_journey_Messages, fr, F_journey_in_val, w, encL]
theorem exT_rate (d : Int) (h0 : 0 ≤ d) (h31 : d < 31) : rateOn exT 9 d = 1000 := by
  have hm : Cal.Is d 1900 1 (d - Cal.dn 1900 1 + 1) := by
    have e1 : Cal.dn 1900 1 = 0 := by decide
    have e2 : Cal.len 1900 1 = 31 := by decide
    exact ⟨by decide, by decide, by omega, by omega⟩
  have hv : versionL exT d = some 0 := by
    unfold versionL upto
    rw [List.takeWhile_cons_of_pos (by simpa using h0)]
    rfl
  unfold rateOn
  rw [hv]
  show rateAt exT 0 9 (Cal.monthOf d) = 1000
  rw [hm.month_eq h0]
  rfl
theorem ex_claim : claimS exL exT = (⟨10, 0, 40, 0⟩, 0) := by
  have hs : sumA exT 9 10 20 = 10000 := by
    have := sumN_const (rateOn exT 9) 1000 10 10 (fun e h1 h2 => exT_rate e (by omega) (by omega))
    unfold sumA
    exact this
  have ha : allowedS exT 9 1000 10 20 = (10, 0) := by
    unfold allowedS
    rw [show rightA exT = true by decide, hs]
    rfl
  unfold claimS
  rw [show okS exL = true by decide, show rightA exT = true by decide]
  have hr : runS exL = (⟨1000, 0, 50, 950, 0, 1, 3, false, true⟩, -1, 0) := by decide
  rw [hr]
  show (lossL 1000 950 (allowedS exT 9 1000 10 20).1 0, 0) = _
  rw [ha]
  rfl
theorem ex_trans (h : Hp) (id : Nat) (hid : h[id]? = some (.arr 1 [[.lst 5 false (exL.map encL)]] true false)) : F_journey_Transit [.sl 1 id 0 1 1 true, I 15] h = some (.tup [I 1000, I 0], h) := by
  refine (F_journey_Transit_own (a0 := .lst 1 false ([((false, exL) : NL)].map encN)) (a1 := I 15) (by simp [cvts, cvt, cvtE, cvtCs, cvtC, cvt1, hid, okE, plain]) (fun st => Transit_run [((false, exL) : NL)] false 15 (by simp) (by simp) st)).trans ?_
  have : transS [((false, exL) : NL)] 15 = (1000, 0) := by decide
  rw [this]
theorem F_law45_awake_val (h : Hp) : F_law45_awake [] h = some (B true, h) := by
  refine F_law45_awake_run rfl ?_ h
  have fe := F_law45_example_val
  have ft := F_law45_table_val
  have r1 := F_journey_Run_val exL false (by decide)
  have hr : runS exL = (⟨1000, 0, 50, 950, 0, 1, 3, false, true⟩, -1, 0) := by decide
  rw [hr] at r1
  have r2 := ex_trans
  have r3 := F_days_ex
  have r4 := F_journey_Claim_val exL exT false false (by decide)
  rw [ex_claim] at r4
  obtain ⟨ms, hm, r5⟩ := F_msgs_ex []
  simp only [tupR, encJ] at r1
  simp only [encO] at r4
  generalize exL.map encL = L at *
  generalize exT.map encA = LT at *
  simp [f_law45_awake, fe, ft, r1, r2, r3, r4, r5, boxE, stE, ap, bsE, fillS, buildK, fillA, hm, show IntKind.i64.wrap 0 = 0 from by kernel_rfl]
end Go.AM


namespace Go.AM
open Go.Proofs
set_option linter.unusedVariables false
set_option linter.unusedSimpArgs false
set_option linter.constructorNameAsVariable false
set_option maxRecDepth 20000
theorem has_Leg {cs : List AV} (h : HasTs [.int .i64, .int .i64, .int .i64, .int .i64, .int .i64] cs) : ∃ p : Leg, cs = encL p := by
  simp only [HasTs, HasT] at h
  obtain ⟨_, _, rfl, ⟨a, rfl, _⟩, _, _, rfl, ⟨b, rfl, _⟩, _, _, rfl, ⟨c, rfl, _⟩, _, _, rfl, ⟨d, rfl, _⟩, _, _, rfl, ⟨e, rfl, _⟩, rfl⟩ := h
  exact ⟨⟨a, b, c, d, e⟩, rfl⟩
theorem has_Legs {a : AV} (h : HasT (.sl [.int .i64, .int .i64, .int .i64, .int .i64, .int .i64]) a) : ∃ (l : List Leg) (b : Bool), a = SL 5 encL b l := has_list (fun _ h => has_Leg h) h
theorem atS_cases (l : List Leg) (day : Int) : ((atS l day).1 = zeroJ ∧ (atS l day).2 ≠ 0) ∨ (okS l = true ∧ atS l day = (atL l day, 0)) := by
  unfold atS
  cases h : okS l with
  | false => left; simp
  | true =>
    cases h2 : win day 0 100000
    · left; simp
    · right; simp
end Go.AM


namespace Go.AM
set_option linter.unusedVariables false
set_option linter.unusedSimpArgs false
section
variable {β α : Type}
theorem effK_putg {r : R} {v : AV} {id : Nat} {o : AObj} {ft : List Nat} {h : Hp} (hr : r = some (v, ⟨[(id, o)], [], ft⟩)) (k : AV → Hp → Option β) : effK r h k = k v (h.set id o) := by subst hr; simp [effK, ap]
theorem ldE {f : α → List AV} {sz : Nat} {W : List α} {id i n : Nat} {h : Hp} {b : Bool} {x : α} (hf : (f x).length = sz) (hid : h[id]? = some (.arr sz (W.map f) true b)) (hn : W.length = n) (hx : W[i]? = some x) (k : K β) : ldK sz true (.ptr id i 0 n) h k = k (.agg (f x)) := by
  subst hf
  simp [hid, hn, hx, pickC]
theorem stEl {f : α → List AV} {sz : Nat} {W : List α} {id i n : Nat} {h : Hp} {b : Bool} {x : α} (hf : ∀ x, (f x).length = sz) (ho : (f x).all okC = true) (hid : h[id]? = some (.arr sz (W.map f) true b)) (hn : W.length = n) (hi : i < W.length) (k : AV → Hp → Option β) : effK (stE sz (.ptr id i 0 n) (.agg (f x)) h) h k = k .u (h.set id (.arr sz ((W.set i x).map f) true b)) := by
  have hx : W[i]? = some W[i] := List.getElem?_eq_getElem hi
  have : stE sz (.ptr id i 0 n) (.agg (f x)) h = some (.u, ⟨[(id, .arr sz ((W.map f).set i (f x)) true b)], [], [id]⟩) := by
    have e1 := hf x
    have e2 := hf W[i]
    rw [stE_ptr, hid]
    simp only [List.length_map, hn, cellsOf, e1, ho, List.getElem?_map, hx, Option.map_some, e2, Nat.zero_add, Nat.le_refl, if_true, true_and, and_self]
    simp only [putAt, e1, List.take_zero, List.nil_append, Nat.zero_add]
    rw [List.drop_eq_nil_of_le (by omega), List.append_nil]
  rw [effK_putg this, List.map_set]
end
structure Kept (h hh : Hp) (k : Nat) : Prop where
  len : h.length ≤ hh.length
  same : ∀ j, j ≠ k → j < h.length → hh[j]? = h[j]?
theorem Kept.refl (h : Hp) (k : Nat) : Kept h h k := ⟨Nat.le_refl _, fun _ _ _ => rfl⟩
theorem Kept.app {h hh : Hp} {k : Nat} (K : Kept h hh k) (g : Hp) : Kept h (hh ++ g) k := ⟨by have := K.len; simp; omega, fun j h1 h2 => by rw [List.getElem?_append_left (by have := K.len; omega)]; exact K.same j h1 h2⟩
theorem Kept.set {h hh : Hp} {k : Nat} (K : Kept h hh k) (o : AObj) : Kept h (hh.set k o) k := ⟨by have := K.len; simpa using this, fun j h1 h2 => by rw [List.getElem?_set_ne (Ne.symm h1)]; exact K.same j h1 h2⟩
structure DelInv {α : Type} (f : α → List AV) (p : α → Bool) (sz : Nat) (l : List α) (h : Hp) (k i w : Nat) (hh : Hp) (W : List α) : Prop where
  kept : Kept h hh k
  at_ : hh[k]? = some (.arr sz (W.map f) true false)
  len : W.length = l.length
  hw : w = ((l.take i).filter fun x => !p x).length
  pre : W.take w = (l.take i).filter fun x => !p x
  post : W.drop i = l.drop i
section
variable {α : Type} {f : α → List AV} {p : α → Bool} {sz : Nat} {l : List α} {h : Hp} {k i w : Nat} {hh : Hp} {W : List α}
theorem DelInv.wi (I : DelInv f p sz l h k i w hh W) : w ≤ i := by
  rw [I.hw]
  exact Nat.le_trans (List.length_filter_le _ _) (by rw [List.length_take]; omega)
theorem DelInv.wl (I : DelInv f p sz l h k i w hh W) : w ≤ l.length := by
  rw [I.hw]
  exact Nat.le_trans (List.length_filter_le _ _) (by rw [List.length_take]; omega)
theorem DelInv.get (I : DelInv f p sz l h k i w hh W) {x : α} (hx : l[i]? = some x) : W[i]? = some x := by
  have := congrArg (fun q => q[0]?) I.post
  simpa [hx] using this
theorem take_succ_of {l : List α} {i : Nat} {x : α} (hx : l[i]? = some x) : l.take (i + 1) = l.take i ++ [x] := by rw [List.take_add_one, hx]; rfl
theorem DelInv.skip (I : DelInv f p sz l h k i w hh W) {x : α} (hx : l[i]? = some x) (hp : p x = true) (g : Hp) : DelInv f p sz l h k (i + 1) w (hh ++ g) W := by
  have e : (l.take (i + 1)).filter (fun x => !p x) = (l.take i).filter fun x => !p x := by rw [take_succ_of hx]; simp [hp]
  refine ⟨I.kept.app g, get_app I.at_, I.len, by rw [e]; exact I.hw, by rw [e]; exact I.pre, ?_⟩
  have := congrArg (List.drop 1) I.post
  simpa [List.drop_drop] using this
theorem DelInv.keep (I : DelInv f p sz l h k i w hh W) {x : α} (hx : l[i]? = some x) (hp : p x = false) (g : Hp) : DelInv f p sz l h k (i + 1) (w + 1) ((hh ++ g).set k (.arr sz ((W.set w x).map f) true false)) (W.set w x) := by
  have hi := (List.getElem?_eq_some_iff.1 hx).1
  have hw := I.wi
  have hl := I.len
  have e : (l.take (i + 1)).filter (fun x => !p x) = ((l.take i).filter fun x => !p x) ++ [x] := by rw [take_succ_of hx]; simp [hp]
  refine ⟨(I.kept.app g).set _, ?_, by simpa using hl, by rw [e, List.length_append, ← I.hw]; rfl, ?_, ?_⟩
  · have := (List.getElem?_eq_some_iff.1 (get_app (g := g) I.at_)).1
    rw [List.getElem?_set_self this]
  · rw [e, ← I.pre, List.take_add_one, List.take_set, List.getElem?_set_self (by omega), List.set_eq_of_length_le (by rw [List.length_take]; omega)]
    rfl
  · rw [List.drop_set_of_lt (by omega)]
    have := congrArg (List.drop 1) I.post
    simpa [List.drop_drop] using this
theorem clr_rest {β : Type} {z : List AV} {fr : Nat} {full : Bool} (hat : hh[k]? = some (.arr sz (W.map f) true false)) (hw : w ≤ W.length) (hfr : fr = W.length) (K : AV → Hp → Option β) :
    effK (clrE sz z (.sl sz k w (W.length - w) fr full) hh) hh K = K (.tup []) (hh.set k (.arr sz ((W.take w).map f ++ List.replicate (W.length - w) z) true false)) := by
  have : clrE sz z (.sl sz k w (W.length - w) fr full) hh = some (.tup [], ⟨[(k, .arr sz ((W.take w).map f ++ List.replicate (W.length - w) z) true false)], [], [k]⟩) := by
    have e : w + (W.length - w) = W.length := by omega
    simp only [clrE, hat, List.length_map, hfr, e, Nat.le_refl, and_self, if_true]
    rw [List.drop_eq_nil_of_le (by simp), List.append_nil, List.map_take]
  rw [effK_putg this]
end
end Go.AM


namespace Go.AM
set_option linter.unusedVariables false
variable {β : Type}
theorem arithK_cg {op : BinOp} {x : AV} {y : AV} {k : K β} {x' : AV} {y' : AV} (e_x : x = x') (e_y : y = y') : arithK op x y k = arithK op x' y' k := by subst e_x e_y; rfl
theorem eqK_cg {P : Program} {neq : Bool} {ty : TypeId} {x : AV} {y : AV} {h : Hp} {k : K β} {x' : AV} {y' : AV} {h' : Hp} (e_x : x = x') (e_y : y = y') (e_h : h = h') : eqK P neq ty x y h k = eqK P neq ty x' y' h' k := by subst e_x e_y e_h; rfl
theorem notK_cg {x : AV} {k : K β} {x' : AV} (e_x : x = x') : notK x k = notK x' k := by subst e_x; rfl
theorem convK_cg {P : Program} {a : TypeId} {b : TypeId} {x : AV} {k : K β} {x' : AV} (e_x : x = x') : convK P a b x k = convK P a b x' k := by subst e_x; rfl
theorem pickK_cg {c : AV} {a : AV} {b : AV} {k : K β} {c' : AV} {a' : AV} {b' : AV} (e_c : c = c') (e_a : a = a') (e_b : b = b') : pickK c a b k = pickK c' a' b' k := by subst e_c e_a e_b; rfl
theorem buildK_cg {z : List AV} {parts : List (Option (Nat × Nat) × AV)} {k : K β} {z' : List AV} (e_z : z = z') : buildK z parts k = buildK z' parts k := by subst e_z; rfl
theorem ldK_cg {n : Nat} {agg : Bool} {p : AV} {h : Hp} {k : K β} {p' : AV} {h' : Hp} (e_p : p = p') (e_h : h = h') : ldK n agg p h k = ldK n agg p' h' k := by subst e_p e_h; rfl
theorem nilK_cg {x : AV} {k : K β} {x' : AV} (e_x : x = x') : nilK x k = nilK x' k := by subst e_x; rfl
theorem sliceK_cg {n : Nat} {x : AV} {lo : Option AV} {hi : Option AV} {mx : Option AV} {k : K β} {x' : AV} (e_x : x = x') : sliceK n x lo hi mx k = sliceK n x' lo hi mx k := by subst e_x; rfl
theorem faK_cg {off : Nat} {p : AV} {k : K β} {p' : AV} (e_p : p = p') : faK off p k = faK off p' k := by subst e_p; rfl
theorem fldK_cg {n : Nat} {agg : Bool} {off : Nat} {x : AV} {k : K β} {x' : AV} (e_x : x = x') : fldK n agg off x k = fldK n agg off x' k := by subst e_x; rfl
theorem iaK_cg {n : Nat} {x : AV} {i : AV} {k : K β} {x' : AV} {i' : AV} (e_x : x = x') (e_i : i = i') : iaK n x i k = iaK n x' i' k := by subst e_x e_i; rfl
theorem iaA_cg {n : Nat} {len : Nat} {x : AV} {i : AV} {k : K β} {x' : AV} {i' : AV} (e_x : x = x') (e_i : i = i') : iaA n len x i k = iaA n len x' i' k := by subst e_x e_i; rfl
theorem lookK_cg {P : Program} {kt : TypeId} {z : AV} {ok : Bool} {m : AV} {kk : AV} {h : Hp} {k : K β} {z' : AV} {m' : AV} {kk' : AV} {h' : Hp} (e_z : z = z') (e_m : m = m') (e_kk : kk = kk') (e_h : h = h') : lookK P kt z ok m kk h k = lookK P kt z' ok m' kk' h' k := by subst e_z e_m e_kk e_h; rfl
theorem capK_cg {x : AV} {k : K β} {x' : AV} (e_x : x = x') : capK x k = capK x' k := by subst e_x; rfl
theorem exK_cg {x : AV} {i : Nat} {k : K β} {x' : AV} (e_x : x = x') : exK x i k = exK x' i k := by subst e_x; rfl
theorem lenK_cg {x : AV} {k : K β} {x' : AV} (e_x : x = x') : lenK x k = lenK x' k := by subst e_x; rfl
theorem minK_cg {x : AV} {y : AV} {k : K β} {x' : AV} {y' : AV} (e_x : x = x') (e_y : y = y') : minK x y k = minK x' y' k := by subst e_x e_y; rfl
theorem maxK_cg {x : AV} {y : AV} {k : K β} {x' : AV} {y' : AV} (e_x : x = x') (e_y : y = y') : maxK x y k = maxK x' y' k := by subst e_x e_y; rfl
theorem effK_cg {r : R} {h : Hp} {k : AV → Hp → Option β} {r' : R} {h' : Hp} (e_r : r = r') (e_h : h = h') : effK r h k = effK r' h' k := by subst e_r e_h; rfl
theorem callK_cg {F : Option Fun} {args : List AV} {h : Hp} {k : AV → Hp → Option β} {F' : Option Fun} {args' : List AV} {h' : Hp} (e_F : F = F') (e_args : args = args') (e_h : h = h') : callK F args h k = callK F' args' h' k := by subst e_F e_args e_h; rfl
theorem callVK_cg {T : Tab} {f : AV} {args : List AV} {h : Hp} {k : AV → Hp → Option β} {T' : Tab} {f' : AV} {args' : List AV} {h' : Hp} (e_T : T = T') (e_f : f = f') (e_args : args = args') (e_h : h = h') : callVK T f args h k = callVK T' f' args' h' k := by subst e_T e_f e_args e_h; rfl
theorem effD_cg {r : R} {h : Hp} {k : AV → Hp → Ent → Option β} {r' : R} {h' : Hp} (e_r : r = r') (e_h : h = h') : effD r h k = effD r' h' k := by subst e_r e_h; rfl
theorem gopD_cg {g : Option Bool} {h : Hp} {run : (AV → Hp → Ent → Option β) → Option β} {k : AV → Hp → Ent → Option β} {g' : Option Bool} {h' : Hp} (e_g : g = g') (e_h : h = h') : gopD g h run k = gopD g' h' run k := by subst e_g e_h; rfl
theorem grpK_cg {want : Bool} {x : AV} {h : Hp} {run : (AV → Hp → Option β) → Option β} {k : AV → Hp → Option β} {x' : AV} {h' : Hp} {run' : (AV → Hp → Option β) → Option β} (e_x : x = x') (e_h : h = h') (e_run : ∀ K, run K = run' K) : grpK want x h run k = grpK want x' h' run' k := by
  have : run = run' := funext e_run
  subst e_x e_h this; rfl
theorem condK_cg {c : AV} {a : Option β} {b : Option β} {c' : AV} (e_c : c = c') : condK c a b = condK c' a b := by subst e_c; rfl
theorem cond_cg {α : Type} {c c' : Bool} {a b : α} (e : c = c') : cond c a b = cond c' a b := by subst e; rfl
end Go.AM


namespace Go.AM
open Go.Proofs
set_option linter.unusedVariables false
set_option linter.unusedSimpArgs false
set_option linter.constructorNameAsVariable false
set_option maxRecDepth 20000
attribute [local congr] arithK_cg eqK_cg notK_cg convK_cg pickK_cg buildK_cg ldK_cg nilK_cg sliceK_cg faK_cg fldK_cg iaK_cg iaA_cg lookK_cg capK_cg exK_cg lenK_cg minK_cg maxK_cg effK_cg callK_cg callVK_cg effD_cg gopD_cg grpK_cg condK_cg cond_cg
section
variable {β : Type} {P : Program} {T : Tab} {D : DTab} {N : Nat} {K : AV → Hp → Option β}
theorem IndexFuncV_Leg1_L2 {x0 : Hp → Option β} {xr : AV → Hp → Option β} {l : List Leg} {v fv : AV} {h : Hp} {p : Leg → Bool} (hl : l.length < 4611686018427387904) (hE : ∀ (i : Nat) (x : Leg), l[i]? = some x → ∀ k : Go.AM.K β, iaK 5 v (I i) (fun q => ldK 5 true q h k) = k (.agg (encL x))) (hp : ∀ x ∈ l, ∀ k : AV → Hp → Option β, callVK T fv [.agg (encL x)] h k = k (B (p x)) h) :
    ∀ (n i : Nat), i ≤ l.length → l.length < i + n → f_slices_IndexFunc_Leg1_L2 P T D N x0 xr n v fv (I l.length) (I i) h = match (l.drop i).findIdx? p with | some j => xr (I ((i + j : Nat) : Int)) h | none => x0 h := by
  intro n
  induction n with
  | zero => intro i h1 h2; omega
  | succ n ih =>
    intro i h1 h2
    show f_slices_IndexFunc_Leg1_b2 P T D N (f_slices_IndexFunc_Leg1_L2 P T D N x0 xr n) x0 xr _ _ _ _ h = _
    unfold f_slices_IndexFunc_Leg1_b2
    rcases Nat.lt_or_ge i l.length with hi | hi
    · have hx : l[i]? = some l[i] := List.getElem?_eq_getElem hi
      have hlt : ((i : Int) < (l.length : Int)) := by omega
      have hw : IntKind.i64.wrap ((i : Int) + 1) = ((i + 1 : Nat) : Int) := by rw [wrap64 (by omega) (by omega)]; omega
      have hpx := hp l[i] (List.getElem_mem hi)
      have hex := hE i l[i] hx
      rw [List.drop_eq_getElem_cons hi, List.findIdx?_cons]
      simp -implicitDefEqProofs only [arithK_lss, hlt, decide_true, condK_bool, if_true, hex, hpx, arithK_add, hw]
      cases hc : p l[i] with
      | true => simp
      | false =>
        have h3 := ih (i + 1) hi (by omega)
        simp only [Bool.false_eq_true, if_false]
        refine h3.trans ?_
        cases (List.drop (i + 1) l).findIdx? p with
        | none => rfl
        | some j =>
          show xr (I ((i + 1 + j : Nat) : Int)) h = xr (I ((i + (j + 1) : Nat) : Int)) h
          rw [show i + 1 + j = i + (j + 1) by omega]
    · have : i = l.length := by omega
      subst this
      have c1 : ¬ ((l.length : Int) < (l.length : Int)) := by omega
      simp [c1]
theorem IndexFuncV_Leg1_K {l : List Leg} {v fv : AV} {h : Hp} {p : Leg → Bool} {K : AV → Hp → Option β} (hl : l.length < N) (hN : l.length < 4611686018427387904) (hL : ∀ k : Go.AM.K β, lenK v k = k (I l.length)) (hE : ∀ (i : Nat) (x : Leg), l[i]? = some x → ∀ k : Go.AM.K β, iaK 5 v (I i) (fun q => ldK 5 true q h k) = k (.agg (encL x))) (hp : ∀ x ∈ l, ∀ k : AV → Hp → Option β, callVK T fv [.agg (encL x)] h k = k (B (p x)) h) :
    f_slices_IndexFunc_Leg1 P T D N K v fv h = K (I (match l.findIdx? p with | some j => (j : Int) | none => -1)) h := by
  unfold f_slices_IndexFunc_Leg1
  simp only [hL]
  have := IndexFuncV_Leg1_L2 (P := P) (D := D) (N := N) (x0 := fun h => f_slices_IndexFunc_Leg1_j1 P T D N K h) (xr := fun a h => K a h) hN hE hp N 0 (Nat.zero_le _) (by omega)
  simp only [List.drop_zero] at this
  refine this.trans ?_
  cases l.findIdx? p with
  | none => rfl
  | some j => simp
theorem DeleteFunc_Leg_L2 {x0 : AV → AV → Hp → Option β} {l : List Leg} {k : Nat} {fv : AV} {h : Hp} {p : Leg → Bool} (hl : l.length < 4611686018427387904) (hp : ∀ x ∈ l, ∀ hh : Hp, Kept h hh k → ∀ K : AV → Hp → Option β, callVK T fv [.agg (encL x)] hh K = K (B (p x)) hh) :
    ∀ (n i w : Nat) (hh : Hp) (W : List Leg), i ≤ l.length → l.length < i + n → DelInv encL p 5 l h k i w hh W →
    ∃ (w' : Nat) (hh' : Hp) (W' : List Leg), f_slices_DeleteFunc_Leg_L2 P T D N x0 n (.sl 5 k 0 l.length l.length false) fv (I w) (I i) hh = x0 (.sl 5 k 0 l.length l.length false) (I w') hh' ∧ DelInv encL p 5 l h k l.length w' hh' W' := by
  intro n
  induction n with
  | zero => intro i w hh W h1 h2; omega
  | succ n ih =>
    intro i w hh W h1 h2 J
    have lL : ∀ k' : Go.AM.K β, lenK (.sl 5 k 0 l.length l.length false) k' = k' (I l.length) := fun k' => rfl
    rcases Nat.lt_or_ge i l.length with hi | hi
    · have hx : l[i]? = some l[i] := List.getElem?_eq_getElem hi
      have hxl : l[i] ∈ l := List.getElem_mem hi
      generalize l[i] = x at hx hxl
      have hlt : ((i : Int) < (l.length : Int)) := by omega
      have hw : IntKind.i64.wrap ((i : Int) + 1) = ((i + 1 : Nat) : Int) := by rw [wrap64 (by omega) (by omega)]; omega
      have hwi := J.wi
      have hw1 : IntKind.i64.wrap ((w : Int) + 1) = ((w + 1 : Nat) : Int) := by rw [wrap64 (by omega) (by omega)]; omega
      have ia : ∀ (m : Nat) (hm : m < l.length) (k' : Go.AM.K β), iaK 5 (.sl 5 k 0 l.length l.length false) (I m) k' = k' (.ptr k m 0 l.length) := fun m hm k' => by
        have e1 : (0 : Int) ≤ (m : Int) := by omega
        have e2 : ((m : Nat) : Int) < ((l.length : Nat) : Int) := by omega
        simp [iaK, e2]
      have l1 : ∀ k' : Go.AM.K β, ldK 5 true (.ptr k i 0 l.length) hh k' = k' (.agg (encL x)) := fun k' => ldE (f := encL) (by simp [encL]) J.at_ J.len (J.get hx) k'
      have bx : ∀ k' : AV → Hp → Option β, effK (boxE 5 (.agg [I 0,I 0,I 0,I 0,I 0]) hh.length) hh k' = k' (.ptr hh.length 0 0 1) (hh ++ [.arr 5 [[I 0,I 0,I 0,I 0,I 0]] true false]) := fun k' => effK_box 5 hh.length (.agg [I 0,I 0,I 0,I 0,I 0]) hh k' rfl rfl rfl
      have sb : ∀ k' : AV → Hp → Option β, effK (stE 5 (.ptr hh.length 0 0 1) (.agg (encL x)) (hh ++ [.arr 5 [[I 0,I 0,I 0,I 0,I 0]] true false])) (hh ++ [.arr 5 [[I 0,I 0,I 0,I 0,I 0]] true false]) k' = k' .u (hh ++ [.arr 5 [encL x] true false]) := fun k' => by
        rw [effK_putg (v := .u) (id := hh.length) (o := .arr 5 [encL x] true false) (ft := [hh.length]) (by simp [encL]), set_new0]; rfl
      have lb : ∀ k' : Go.AM.K β, ldK 5 true (.ptr hh.length 0 0 1) (hh ++ [.arr 5 [encL x] true false]) k' = k' (.agg (encL x)) := fun k' => by simp [encL]
      have cp := hp x hxl (hh ++ [AObj.arr 5 [encL x] true false]) (J.kept.app _)
      have sw : ∀ k' : AV → Hp → Option β, effK (stE 5 (.ptr k w 0 l.length) (.agg (encL x)) (hh ++ [.arr 5 [encL x] true false])) (hh ++ [.arr 5 [encL x] true false]) k' = k' .u ((hh ++ [AObj.arr 5 [encL x] true false]).set k (.arr 5 ((W.set w x).map encL) true false)) := fun k' =>
        stEl (f := encL) (i := w) (fun x => by simp [encL]) (by simp [encL]) (get_app J.at_) J.len (by have := J.len; omega) k'
      have body : ∀ (w' : Nat) (hh' : Hp) (W' : List Leg), DelInv encL p 5 l h k (i + 1) w' hh' W' → ∃ (w'' : Nat) (hh'' : Hp) (W'' : List Leg), f_slices_DeleteFunc_Leg_L2 P T D N x0 n (.sl 5 k 0 l.length l.length false) fv (I w') (I ((i + 1 : Nat) : Int)) hh' = x0 (.sl 5 k 0 l.length l.length false) (I w'') hh'' ∧ DelInv encL p 5 l h k l.length w'' hh'' W'' := fun w' hh' W' J' => ih (i + 1) w' hh' W' hi (by omega) J'
      cases hc : p x with
      | true =>
        obtain ⟨w', hh', W', e1, e2⟩ := body w _ W (J.skip hx hc [AObj.arr 5 [encL x] true false])
        refine ⟨w', hh', W', ?_, e2⟩
        rw [← e1]
        show f_slices_DeleteFunc_Leg_b2 P T D N (f_slices_DeleteFunc_Leg_L2 P T D N x0 n) x0 _ _ _ _ hh = _
        simp -implicitDefEqProofs only [f_slices_DeleteFunc_Leg_b2, lL, arithK_lss, hlt, decide_true, condK_bool, if_true, ia i hi, l1, bx, sb, lb, cp, hc, notK_bool, Bool.not_true, Bool.false_eq_true, if_false, f_slices_DeleteFunc_Leg_j4, f_slices_DeleteFunc_Leg_j3, arithK_add, hw]
      | false =>
        obtain ⟨w', hh', W', e1, e2⟩ := body (w + 1) _ _ (J.keep hx hc [AObj.arr 5 [encL x] true false])
        refine ⟨w', hh', W', ?_, e2⟩
        rw [← e1]
        show f_slices_DeleteFunc_Leg_b2 P T D N (f_slices_DeleteFunc_Leg_L2 P T D N x0 n) x0 _ _ _ _ hh = _
        simp -implicitDefEqProofs only [f_slices_DeleteFunc_Leg_b2, lL, arithK_lss, hlt, decide_true, condK_bool, if_true, ia i hi, ia w (by omega), l1, bx, sb, lb, cp, hc, notK_bool, Bool.not_false, sw, f_slices_DeleteFunc_Leg_j4, f_slices_DeleteFunc_Leg_j3, arithK_add, hw, hw1]
    · have : i = l.length := by omega
      subst this
      have c1 : ¬ ((l.length : Int) < (l.length : Int)) := by omega
      refine ⟨w, hh, W, ?_, J⟩
      show f_slices_DeleteFunc_Leg_b2 P T D N (f_slices_DeleteFunc_Leg_L2 P T D N x0 n) x0 _ _ _ _ hh = _
      simp -implicitDefEqProofs only [f_slices_DeleteFunc_Leg_b2, lL, arithK_lss, c1, decide_false, condK_bool, Bool.false_eq_true, if_false]
theorem DeleteFunc_Leg_K {l : List Leg} {k : Nat} {fv : AV} {h : Hp} {p : Leg → Bool} {K : AV → Hp → Option β} (hk : h[k]? = some (.arr 5 (l.map encL) true false)) (hl : l.length < N) (hN : l.length < 1000000)
    (hi : ∀ K : AV → Hp → Option β, callK (T 43) [.sl 5 k 0 l.length l.length false, fv] h K = K (I (match l.findIdx? p with | some j => (j : Int) | none => -1)) h)
    (hp : ∀ x ∈ l, ∀ hh : Hp, Kept h hh k → ∀ K : AV → Hp → Option β, callVK T fv [.agg (encL x)] hh K = K (B (p x)) hh) :
    ∃ hh : Hp, f_slices_DeleteFunc_Leg P T D N K (.sl 5 k 0 l.length l.length false) fv h = K (.sl 5 k 0 (l.filter fun x => !p x).length l.length false) hh ∧ hh[k]? = some (.arr 5 ((l.filter fun x => !p x).map encL ++ List.replicate (l.length - (l.filter fun x => !p x).length) [I 0,I 0,I 0,I 0,I 0]) true false) ∧ Kept h hh k := by
  cases hf : l.findIdx? p with
  | none =>
    have hno : ∀ x ∈ l, p x = false := fun x hx => by have := List.findIdx?_eq_none_iff.1 hf x hx; simpa using this
    have e : (l.filter fun x => !p x) = l := List.filter_eq_self.2 fun x hx => by simp [hno x hx]
    rw [e]
    refine ⟨h, ?_, by rw [Nat.sub_self, List.replicate_zero, List.append_nil]; exact hk, .refl h k⟩
    rw [hf] at hi
    simp -implicitDefEqProofs only [f_slices_DeleteFunc_Leg, hi, eqK_int, beq_self_eq_true, Bool.false_xor, condK_bool, if_true]
  | some j =>
    rw [hf] at hi
    obtain ⟨hj, hpj, hbef⟩ := List.findIdx?_eq_some_iff_getElem.1 hf
    have hx : l[j]? = some l[j] := List.getElem?_eq_getElem hj
    have hnb : ∀ x ∈ l.take j, p x = false := fun x hx => by
      obtain ⟨i, hi, rfl⟩ := List.getElem_of_mem hx
      rw [List.length_take] at hi
      have := hbef i (by omega)
      rw [List.getElem_take]
      simpa using this
    have e : ((l.take j).filter fun x => !p x) = l.take j := List.filter_eq_self.2 fun x hx => by simp [hnb x hx]
    have J0 : DelInv encL p 5 l h k j j h l := ⟨.refl h k, hk, rfl, by rw [e, List.length_take]; omega, by rw [e], rfl⟩
    have J1 : DelInv encL p 5 l h k (j + 1) j h l := by have := J0.skip hx hpj []; rwa [List.append_nil] at this
    obtain ⟨w, hh, W, e1, e2⟩ := DeleteFunc_Leg_L2 (P := P) (T := T) (D := D) (x0 := fun w27_0 w27_5 h => f_slices_DeleteFunc_Leg_j1 P T D N K w27_0 w27_5 h) (by omega) hp N (j + 1) j h l hj (by omega) J1
    have hw : w = (l.filter fun x => !p x).length := by have := e2.hw; rwa [List.take_length] at this
    have hpre : W.take w = l.filter fun x => !p x := by have := e2.pre; rwa [List.take_length] at this
    have hwl : w ≤ W.length := by rw [e2.len]; exact e2.wl
    have hj1 : ((j : Int) == -1) = false := by rw [beq_eq_false_iff_ne]; omega
    have wj : IntKind.i64.wrap ((j : Int) + 1) = ((j + 1 : Nat) : Int) := by rw [wrap64 (by omega) (by omega)]; omega
    have sl1 : ∀ k' : Go.AM.K β, sliceK 5 (.sl 5 k 0 l.length l.length false) (some (I w)) none none k' = k' (.sl 5 k w (l.length - w) l.length false) := fun k' => by
      have := e2.wl
      simp [sliceK, boundOr, this]
    have sl2 : ∀ k' : Go.AM.K β, sliceK 5 (.sl 5 k 0 l.length l.length false) none (some (I w)) none k' = k' (.sl 5 k 0 w l.length false) := fun k' => by
      have := e2.wl
      simp [sliceK, boundOr, this]
    have cl := fun k' => clr_rest (β := β) (z := [I 0,I 0,I 0,I 0,I 0]) (fr := l.length) (full := false) e2.at_ hwl e2.len.symm k'
    rw [e2.len] at cl
    refine ⟨hh.set k (.arr 5 ((W.take w).map encL ++ List.replicate (l.length - w) [I 0,I 0,I 0,I 0,I 0]) true false), ?_, ?_, e2.kept.set _⟩
    · simp -implicitDefEqProofs only [f_slices_DeleteFunc_Leg, hi, eqK_int, hj1, Bool.false_xor, condK_bool, Bool.false_eq_true, if_false, arithK_add, wj]
      refine e1.trans ?_
      simp -implicitDefEqProofs only [f_slices_DeleteFunc_Leg_j1, sl1, sl2, cl]
      rw [hw]
    · rw [List.getElem?_set_self (List.getElem?_eq_some_iff.1 e2.at_).1, hpre, hw]
theorem lgh0 {h : Hp} {m : Leg} (k : Go.AM.K β) : ldK 1 false (.ptr h.length 0 0 1) (h ++ [.arr 5 [encL m] true false]) k = k (I m.day) := by simp [encL]
abbrev zJ : List AV := [I 0, I 0, I 0, I 0, I 0, I 0, I 0, B false, B false]
theorem jbx {h : Hp} (k : AV → Hp → Option β) : effK (boxE 9 (.agg zJ) h.length) h k = k (.ptr h.length 0 0 1) (h ++ [.arr 9 [zJ] true false]) := effK_box 9 h.length (.agg zJ) h k rfl rfl rfl
theorem jst {h : Hp} {m : Jny} (k : AV → Hp → Option β) : effK (stE 9 (.ptr h.length 0 0 1) (.agg (encJ m)) (h ++ [.arr 9 [zJ] true false])) (h ++ [.arr 9 [zJ] true false]) k = k .u (h ++ [.arr 9 [encJ m] true false]) := by
  rw [effK_putg (v := .u) (id := h.length) (o := .arr 9 [encJ m] true false) (ft := [h.length]) (by simp [encJ]), set_new0]; rfl
theorem jbxD {h : Hp} (k : AV → Hp → Ent → Option β) : effD (boxE 9 (.agg zJ) h.length) h k = k (.ptr h.length 0 0 1) (h ++ [.arr 9 [zJ] true false]) ([], [h.length]) := by
  have : boxE 9 (.agg zJ) h.length = some (.ptr h.length 0 0 1, ⟨[], [.arr 9 [zJ] true false], []⟩) := rfl
  rw [this]
  simp [effD, ap, wrOf]
theorem jstD {h : Hp} {m : Jny} (k : AV → Hp → Ent → Option β) : effD (stE 9 (.ptr h.length 0 0 1) (.agg (encJ m)) (h ++ [.arr 9 [zJ] true false])) (h ++ [.arr 9 [zJ] true false]) k = k .u (h ++ [.arr 9 [encJ m] true false]) ([h.length], [h.length]) := by
  have hr : stE 9 (.ptr h.length 0 0 1) (.agg (encJ m)) (h ++ [.arr 9 [zJ] true false]) = some (.u, ⟨[(h.length, .arr 9 [encJ m] true false)], [], [h.length]⟩) := by simp [encJ]
  rw [hr]
  simp only [effD, ap, wrOf, List.foldl_cons, List.foldl_nil, set_new0, List.append_nil]
  rfl
theorem jld {h : Hp} {id : Nat} {m : Jny} (hid : h[id]? = some (.arr 9 [encJ m] true false)) (k : Go.AM.K β) : ldK 9 true (.ptr id 0 0 1) h k = k (.agg (encJ m)) := by simp [hid, encJ]
theorem eqs_J (x : Jny) (n : Bool) (h : Hp) (k : Go.AM.K β) : eqK Try.prog n 43 (.agg (encJ x)) (.agg (encJ x)) h k = k (B (xor n true)) := by
  simp only [encJ, eqs_43]
  simp
end
theorem R_Clone_Legs (l : List Leg) (b : Bool) (hl : l.length < 1000000) (h : Hp) : R_slices_Clone_Leg [.lst 5 (b && l.isEmpty) (l.map encL)] h = if (b && l.isEmpty) = true then some (nilS, h) else some (.sl 5 (h.length + 1) 0 l.length l.length false, h ++ [.arr 5 [] true false, .arr 5 (l.map encL) true false]) := by
  rw [R_slices_Clone_Leg_raw]
  by_cases hb : (b && l.isEmpty) = true
  · simp [f_slices_Clone_Leg, hb]
  · have hb' : (b && l.isEmpty) = false := by simpa using hb
    have hle : l.length * 40 ≤ 140737488355328 := by omega
    have h2 : ((l.map encL).all fun e => e.length == 5) = true := by simp [encL]
    simp [f_slices_Clone_Leg, hb', bsE, fillS, appE, readSl, hle, h2, ap]
theorem clone_at (l : List Leg) (b : Bool) (hl : l.length < 1000000) (h : Hp) : ∃ c hc a, R_slices_Clone_Leg [.lst 5 (b && l.isEmpty) (l.map encL)] h = some (c, hc) ∧ cvts false hc [c] = some [a] ∧ nrm (.l 5) a = .lst 5 (b && l.isEmpty) (l.map encL) ∧ ∀ j < h.length, hc[j]? = h[j]? := by
  have rC := R_Clone_Legs l b hl h
  by_cases hb : (b && l.isEmpty) = true
  · rw [if_pos hb] at rC
    obtain ⟨rfl, hl0⟩ := Bool.and_eq_true_iff.1 hb
    have : l = [] := by simpa using hl0
    subst this
    exact ⟨nilS, h, nilS, rC, rfl, rfl, fun _ _ => rfl⟩
  · rw [if_neg hb] at rC
    have hb' : (b && l.isEmpty) = false := by simpa using hb
    refine ⟨_, _, .lst 5 false (l.map encL), rC, ?_, by rw [hb']; rfl, fun j hj => List.getElem?_append_left hj⟩
    have hok : okE false (l.map encL) = true := okE_map (by intro x; simp [encL])
    have := cvt_whole (st := false) (h := h ++ [.arr 5 [] true false, .arr 5 (l.map encL) true false]) (id := h.length + 1) (full := false) (n := l.length) (fr := l.length) (get_new h _ 1) (by simp) (by simp) hok
    rw [cvts_cons, this]
    rfl
theorem scal_R (r : Jny × Int × Int) : scal (tupR r) = true := by obtain ⟨⟨a0, a1, a2, a3, a4, a5, a6, a7, a8⟩, e, f⟩ := r; rfl
theorem Run_at (l : List Leg) {b : Bool} (hl : l.length < 1000000) {h : Hp} {v a : AV} (hv : cvts false h [v] = some [a]) (ha : nrm (.l 5) a = .lst 5 b (l.map encL)) : F_journey_Run [v] h = some (tupR (runS l), h) :=
  closedX_scal' (asl := [.lst 5 b (l.map encL)]) hv (by simp only [nrms, ha]; rfl) rfl (F_journey_Run_val l b hl []) (scal_R _)
theorem At_at (l : List Leg) {b : Bool} {day : Int} (hl : l.length < 1000000) {h : Hp} {v a : AV} (hv : cvts false h [v] = some [a]) (ha : nrm (.l 5) a = .lst 5 b (l.map encL)) : F_journey_At [v, I day] h = some (.tup [.agg (encJ (atS l day).1), I (atS l day).2], h) :=
  closedX_scal' (as' := [a, I day]) (asl := [.lst 5 b (l.map encL), I day]) (by rw [cvts_cons] at hv ⊢; revert hv; cases cvt false h v <;> simp [cvts, cvt]) (by simp only [nrms, ha]; rfl) rfl (F_journey_At_val l b day hl []) (by generalize atS l day = r; obtain ⟨⟨a0, a1, a2, a3, a4, a5, a6, a7, a8⟩, e⟩ := r; rfl)
def earlyL (day : Int) (l : List Leg) : List Leg := l.filter fun x => !decide (x.day > day)
theorem earlyL_eq {l : List Leg} {day : Int} (h : okS l = true) : earlyL day l = untilD l day := by
  rw [← filter_days (okL_days l _ _ _ (okS_ok h).2).2]
  unfold earlyL
  refine List.filter_congr fun x _ => ?_
  rw [← decide_not]
  simp
theorem until_all {l : List Leg} (h : okS l = true) : untilD l 100000 = l := by
  have hd := okL_days l _ _ _ (okS_ok h).2
  rw [← filter_days hd.2]
  exact List.filter_eq_self.2 fun x hx => by simpa using (hd.1 x hx).2.2
theorem known1_at {m : Leg} {day : Int} {hh : Hp} (h0 : hh[0]? = some (.arr 1 [[I day]] true false)) : F_law45_JourneyKnown_1 [.agg (encL m), .ptr 0 0 0 1] hh = some (B (decide (m.day > day)), hh) := by
  refine F_law45_JourneyKnown_1_q (g := [.arr 5 [encL m] true false]) ?_ rfl
  have bx : ∀ k : AV → Hp → Option (AV × Hp), effK (boxE 5 (.agg (encL m)) hh.length) hh k = k (.ptr hh.length 0 0 1) (hh ++ [.arr 5 [encL m] true false]) := fun k => effK_box 5 hh.length _ hh k rfl rfl rfl
  have ld0 : ∀ k : Go.AM.K (AV × Hp), ldK 1 false (.ptr 0 0 0 1) (hh ++ [.arr 5 [encL m] true false]) k = k (I day) := fun k => by rw [ldK_ptr, get_app h0]; rfl
  simp -implicitDefEqProofs only [f_law45_JourneyKnown_1, bx, faK_ptr, Nat.zero_add, lgh0, ld0, arithK_gtr]
theorem early_at (l : List Leg) (b : Bool) (day : Int) (hl : l.length < 1000) (h : Hp) (h0 : h[0]? = some (.arr 1 [[I day]] true false)) : ∃ c hc v hh a b', R_slices_Clone_Leg [.lst 5 (b && l.isEmpty) (l.map encL)] h = some (c, hc) ∧ R_slices_DeleteFunc_Leg__law45_JourneyKnown_1 [c, .fn 23 [.ptr 0 0 0 1]] hc = some (v, hh) ∧ h.length ≤ hh.length ∧ (∀ j < h.length, hh[j]? = h[j]?) ∧ cvts false hh [v] = some [a] ∧ nrm (.l 5) a = .lst 5 b' ((earlyL day l).map encL) := by
  have hN := NN_ge
  have rC := R_Clone_Legs l b (by omega) h
  by_cases hb : (b && l.isEmpty) = true
  · rw [if_pos hb] at rC
    obtain ⟨rfl, hl0⟩ := Bool.and_eq_true_iff.1 hb
    have : l = [] := by simpa using hl0
    subst this
    have fi : F_slices_IndexFunc_Leg1__law45_JourneyKnown_1 [nilS, .fn 23 [.ptr 0 0 0 1]] h = some (I (-1), h) :=
      F_slices_IndexFunc_Leg1__law45_JourneyKnown_1_q (g := []) (by rw [List.append_nil]; exact IndexFuncV_Leg1_K (l := []) (p := fun _ => true) (by have := NN_ge; simp; omega) (by simp) (fun _ => rfl) (by simp) (by simp)) rfl
    refine ⟨nilS, h, nilS, h, nilS, true, rC, ?_, Nat.le_refl _, fun _ _ => rfl, rfl, rfl⟩
    rw [R_slices_DeleteFunc_Leg__law45_JourneyKnown_1_raw]
    simp -implicitDefEqProofs only [f_slices_DeleteFunc_Leg, t_slices_DeleteFunc_Leg__law45_JourneyKnown_1_43, callK_F, fi, eqK_int, beq_self_eq_true, Bool.false_xor, condK_bool, if_true]
  · rw [if_neg hb] at rC
    obtain ⟨hc, hhc⟩ : ∃ hc : Hp, hc = h ++ [.arr 5 [] true false, .arr 5 (l.map encL) true false] := ⟨_, rfl⟩
    have hlen : hc.length = h.length + 2 := by rw [hhc]; simp
    have hk : hc[h.length + 1]? = some (.arr 5 (l.map encL) true false) := by rw [hhc, get_new]; rfl
    have hs : ∀ j < h.length, hc[j]? = h[j]? := fun j hj => by rw [hhc, List.getElem?_append_left hj]
    have hpos : 0 < h.length := (List.getElem?_eq_some_iff.1 h0).1
    have h0c : hc[0]? = some (.arr 1 [[I day]] true false) := by rw [hs 0 hpos, h0]
    rw [← hhc] at rC
    have fi : F_slices_IndexFunc_Leg1__law45_JourneyKnown_1 [.sl 5 (h.length + 1) 0 l.length l.length false, .fn 23 [.ptr 0 0 0 1]] hc = some (I (match l.findIdx? (fun m => decide (m.day > day)) with | some j => (j : Int) | none => -1), hc) :=
      F_slices_IndexFunc_Leg1__law45_JourneyKnown_1_q (g := []) (by
        rw [List.append_nil]
        refine IndexFuncV_Leg1_K (l := l) (p := fun m => decide (m.day > day)) (by omega) (by omega) (fun _ => rfl) (fun i x hx k => ?_) (fun x hx k => ?_)
        · have hi := (List.getElem?_eq_some_iff.1 hx).1
          have e2 : ((i : Nat) : Int) < ((l.length : Nat) : Int) := by omega
          have ia : ∀ k' : Go.AM.K (AV × Hp), iaK 5 (.sl 5 (h.length + 1) 0 l.length l.length false) (I i) k' = k' (.ptr (h.length + 1) i 0 l.length) := fun k' => by simp [iaK, e2]
          rw [ia]
          exact ldE (f := encL) rfl hk rfl hx k
        · show callK (t_slices_IndexFunc_Leg1__law45_JourneyKnown_1 23) [.agg (encL x), .ptr 0 0 0 1] hc k = _
          simp -implicitDefEqProofs only [t_slices_IndexFunc_Leg1__law45_JourneyKnown_1_23, callK_F, known1_at h0c]) rfl
    have cb : ∀ x ∈ l, ∀ hh : Hp, Kept hc hh (h.length + 1) → ∀ K : AV → Hp → Option (AV × Hp), callVK t_slices_DeleteFunc_Leg__law45_JourneyKnown_1 (.fn 23 [.ptr 0 0 0 1]) [.agg (encL x)] hh K = K (B (decide (x.day > day))) hh := fun x hx hh J K => by
      have h0h : hh[0]? = some (.arr 1 [[I day]] true false) := by rw [J.same 0 (by omega) (by omega), h0c]
      show callK (t_slices_DeleteFunc_Leg__law45_JourneyKnown_1 23) [.agg (encL x), .ptr 0 0 0 1] hh K = _
      simp -implicitDefEqProofs only [t_slices_DeleteFunc_Leg__law45_JourneyKnown_1_23, callK_F, known1_at h0h]
    obtain ⟨hh, e1, e2, e3⟩ := DeleteFunc_Leg_K (P := Try.prog) (T := t_slices_DeleteFunc_Leg__law45_JourneyKnown_1) (D := d_slices_DeleteFunc_Leg__law45_JourneyKnown_1) (N := NN) (K := fun v h => some (v, h)) (fv := .fn 23 [.ptr 0 0 0 1]) hk (by omega) (by omega) (fun K => by
      simp -implicitDefEqProofs only [t_slices_DeleteFunc_Leg__law45_JourneyKnown_1_43, callK_F, fi] <;> rfl) cb
    have hw : (earlyL day l).length ≤ l.length := List.length_filter_le _ _
    rw [show (l.filter fun x => !decide (x.day > day)) = earlyL day l from rfl] at e1 e2
    have hgl := e3.len
    refine ⟨_, hc, .sl 5 (h.length + 1) 0 (earlyL day l).length l.length false, hh, .lst 5 false ((earlyL day l).map encL), false, rC, ?_, by omega, fun j hj => by rw [e3.same j (by omega) (by omega), hs j hj], ?_, rfl⟩
    · rw [R_slices_DeleteFunc_Leg__law45_JourneyKnown_1_raw]
      exact e1
    · have hok : okE false ((earlyL day l).map encL) = true := okE_map (by intro x; simp [encL])
      have h3 : ((((earlyL day l).map encL ++ List.replicate (l.length - (earlyL day l).length) [I 0, I 0, I 0, I 0, I 0]).drop 0).take (earlyL day l).length) = (earlyL day l).map encL := by
        rw [List.drop_zero, List.take_left' (by simp)]
      have hcv : cvt false hh (.sl 5 (h.length + 1) 0 (earlyL day l).length l.length false) = some (.lst 5 false ((earlyL day l).map encL)) := by
        simp only [cvt, e2, h3, hok, if_true]
        have : (earlyL day l).length + (l.length - (earlyL day l).length) = l.length := by omega
        simp [this, hw]
      rw [cvts_cons, hcv]
      rfl
theorem xr0 {β : Type} (r : Jny × Int × Int) (k : Go.AM.K β) : exK (tupR r) 0 k = k (.agg (encJ r.1)) := rfl
theorem xr1 {β : Type} (r : Jny × Int × Int) (k : Go.AM.K β) : exK (tupR r) 1 k = k (I r.2.1) := rfl
theorem xr2 {β : Type} (r : Jny × Int × Int) (k : Go.AM.K β) : exK (tupR r) 2 k = k (I r.2.2) := rfl
theorem xp0 {β : Type} (a b : AV) (k : Go.AM.K β) : exK (.tup [a, b]) 0 k = k a := rfl
theorem xp1 {β : Type} (a b : AV) (k : Go.AM.K β) : exK (.tup [a, b]) 1 k = k b := rfl
theorem effD_roJ {β : Type} (v : AV) (ft : List Nat) (h : Hp) (k : AV → Hp → Ent → Option β) : effD (some (v, EF ft)) h k = k v h (ft, []) := by simp [effD, ap, EF, wrOf]
theorem known_law (l : List Leg) (b : Bool) (day : Int) : F_law45_JourneyKnown [SL 5 encL b l, I day] [] = some (B true, []) := by
  refine F_law45_JourneyKnown_run (a0 := SL 5 encL b l) (a1 := I day) rfl ?_ []
  simp only [nrm, nrmC]
  have fw := F_law45_awake_val
  have b0 : ∀ k : AV → Hp → Option AV, effK (boxE 1 (I day) ([] : Hp).length) [] k = k (.ptr 0 0 0 1) [.arr 1 [[I day]] true false] := fun k => rfl
  simp -implicitDefEqProofs only [f_law45_JourneyKnown, b0, t_law45_JourneyKnown_8, callK_F, fw, notK_bool, Bool.not_true, condK_bool, Bool.false_eq_true, if_false, SL, lenK_lst, List.length_map, arithK_gtr]
  by_cases hb : 16 < (l.length : Int)
  · simp only [hb, decide_true, if_true]; rfl
  · have hl : l.length ≤ 16 := by omega
    have gc : ∀ h base, G_slices_Clone_Leg [.lst 5 (b && l.isEmpty) (l.map encL)] h base = some (.lst 5 (b && l.isEmpty) (l.map encL), EF []) := fun h base => (closedXD_val (F_slices_Clone_Leg_val l b (by omega) h) base).trans (by simp [SL, idss, ids])
    have g1 : ∀ h base, G_journey_At [.lst 5 (b && l.isEmpty) (l.map encL), I day] h base = some (.tup [.agg (encJ (atS l day).1), I (atS l day).2], EF []) := fun h base => (closedXD_val (F_journey_At_val l (b && l.isEmpty) day (by omega) h) base).trans (by simp [idss, ids])
    have ld0 : ∀ k : Go.AM.K AV, ldK 1 false (.ptr 0 0 0 1) [.arr 1 [[I day]] true false] k = k (I day) := fun k => rfl
    obtain ⟨j, hj⟩ : ∃ j, j = (atS l day).1 := ⟨_, rfl⟩
    have bx : ∀ k : AV → Hp → Ent → Option AV, effD (boxE 9 (.agg zJ) ([.arr 1 [[I day]] true false] : Hp).length) [.arr 1 [[I day]] true false] k = k (.ptr 1 0 0 1) [.arr 1 [[I day]] true false, .arr 9 [zJ] true false] ([], [1]) := fun k => jbxD k
    have sx : ∀ k : AV → Hp → Ent → Option AV, effD (stE 9 (.ptr 1 0 0 1) (.agg (encJ j)) [.arr 1 [[I day]] true false, .arr 9 [zJ] true false]) [.arr 1 [[I day]] true false, .arr 9 [zJ] true false] k = k .u [.arr 1 [[I day]] true false, .arr 9 [encJ j] true false] ([1], [1]) := fun k => jstD (h := [.arr 1 [[I day]] true false]) k
    have dj : disjAll [(1, 2), (1, 7), (2, 7), (3, 7)] [([], []), ([], []), (idsOf (.ptr 0 0 0 1), []), ([], []), ([], []), ([], []), ([], []), ([], [1]), ([1], [1]), ([], [])] = true := rfl
    have l1 : ∀ k : Go.AM.K AV, ldK 9 true (.ptr 1 0 0 1) [.arr 1 [[I day]] true false, .arr 9 [encJ j] true false] k = k (.agg (encJ j)) := fun k => jld (id := 1) rfl k
    have bz : ∀ k : Go.AM.K AV, buildK zJ [] k = k (.agg (encJ zeroJ)) := fun k => rfl
    rw [← hj] at g1
    simp -implicitDefEqProofs only [hb, decide_false, Bool.false_eq_true, if_false, d_law45_JourneyKnown_12, d_law45_JourneyKnown_20, callE_F, gc, g1, effD_roJ, ld0, xp0, xp1, bx, sx, dj, cond_true, eqK_int, Bool.true_xor, condK_bool]
    rcases atS_cases l day with ⟨e1, e2⟩ | ⟨e1, e2⟩
    · have e3 : ((atS l day).2 == 0) = false := by simpa using e2
      rw [e1] at hj
      subst hj
      simp -implicitDefEqProofs only [e3, Bool.not_false, if_true, l1, bz, eqs_J, Bool.false_xor]
      rfl
    · have e3 : ((atS l day).2 == 0) = true := by rw [e2]; rfl
      have hja : j = atL l day := by rw [hj, e2]
      obtain ⟨c, hc, v, hh, a, b', r1, r2, r3, r4, r5, r6⟩ := early_at l b day (by omega) [.arr 1 [[I day]] true false, .arr 9 [encJ j] true false] rfl
      have hel : (earlyL day l).length ≤ l.length := List.length_filter_le _ _
      have f1 := Run_at (earlyL day l) (by omega) r5 r6
      rw [earlyL_eq e1, at_run e1, ← hja] at f1
      have hL : 2 ≤ hh.length := r3
      have h1 : hh[1]? = some (.arr 9 [encJ j] true false) := r4 1 (by simp)
      obtain ⟨c2, h2, a2, s1, s2, s3, s4⟩ := clone_at l b (by omega) (hh ++ [.arr 9 [encJ j] true false])
      have f2 := Run_at l (by omega) s2 s3
      have erun := okS_run e1
      have hat : atS l 100000 = (l.foldl actL zeroJ, 0) := by
        unfold atS
        rw [e1]
        simp only [Bool.true_eq_false, if_false]
        rw [if_neg (by decide)]
        unfold atL
        rw [until_all e1]
      rw [erun] at f2
      obtain ⟨c3, h3, a3, u1, u2, u3, u4⟩ := clone_at l b (by omega) (h2 ++ [.arr 9 [encJ (l.foldl actL zeroJ)] true false])
      have f3 := At_at l (day := 100000) (by omega) u2 u3
      rw [hat] at f3
      generalize l.foldl actL zeroJ = q at *
      have k2 : h2.length ≥ hh.length + 1 := by
        have := s4 hh.length (by simp)
        rw [get_new0] at this
        have := (List.getElem?_eq_some_iff.1 this).1
        omega
      have k3 : h3.length ≥ h2.length + 1 := by
        have := u4 h2.length (by simp)
        rw [get_new0] at this
        have := (List.getElem?_eq_some_iff.1 this).1
        omega
      have p2 : ∀ i < h2.length, h3[i]? = h2[i]? := fun i hi => by rw [u4 i (by simp; omega), List.getElem?_append_left hi]
      have p1 : ∀ i < hh.length, h3[i]? = hh[i]? := fun i hi => by rw [p2 i (by omega), s4 i (by simp; omega), List.getElem?_append_left hi]
      have w1 : (h3 ++ [AObj.arr 9 [encJ q] true false])[1]? = some (.arr 9 [encJ j] true false) := by rw [get_app (by rw [p1 1 (by omega)]; exact h1)]
      have wh : (h3 ++ [AObj.arr 9 [encJ q] true false])[hh.length]? = some (.arr 9 [encJ j] true false) := by rw [get_app (o := .arr 9 [encJ j] true false) (by rw [p2 _ (by omega), s4 _ (by simp), get_new0]; rfl)]
      have w2 : (h3 ++ [AObj.arr 9 [encJ q] true false])[h2.length]? = some (.arr 9 [encJ q] true false) := by rw [get_app (o := .arr 9 [encJ q] true false) (by rw [u4 _ (by simp), get_new0]; rfl)]
      have w3 : (h3 ++ [AObj.arr 9 [encJ q] true false])[h3.length]? = some (.arr 9 [encJ q] true false) := by rw [get_new0]; rfl
      have m1 : ∀ k : Go.AM.K AV, ldK 9 true (.ptr 1 0 0 1) (h3 ++ [AObj.arr 9 [encJ q] true false]) k = k (.agg (encJ j)) := fun k => jld w1 k
      have mh : ∀ k : Go.AM.K AV, ldK 9 true (.ptr hh.length 0 0 1) (h3 ++ [AObj.arr 9 [encJ q] true false]) k = k (.agg (encJ j)) := fun k => jld wh k
      have m2 : ∀ k : Go.AM.K AV, ldK 9 true (.ptr h2.length 0 0 1) (h3 ++ [AObj.arr 9 [encJ q] true false]) k = k (.agg (encJ q)) := fun k => jld w2 k
      have m3 : ∀ k : Go.AM.K AV, ldK 9 true (.ptr h3.length 0 0 1) (h3 ++ [AObj.arr 9 [encJ q] true false]) k = k (.agg (encJ q)) := fun k => jld w3 k
      simp -implicitDefEqProofs only [e3, Bool.not_true, Bool.false_eq_true, if_false, t_law45_JourneyKnown_12, t_law45_JourneyKnown_22, t_law45_JourneyKnown_18, t_law45_JourneyKnown_20, callK_F, r1, r2, f1, xr0, xr1, xr2, jbx, jst, s1, f2, u1, f3, xp0, xp1, m1, mh, m2, m3, eqs_J, eqK_int, beq_self_eq_true, Bool.false_xor, grpK_tt]
      rfl
end Go.AM

