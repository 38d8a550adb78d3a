import Derived.Test.YtoamikbdfedngaaGreatG5
import Derived.Below
import Derived.ChangeOld
import Derived.Carry
import Derived.OpenShut
set_option linter.unusedSectionVars false
set_option linter.unusedVariables false
set_option linter.unusedSimpArgs false
set_option linter.constructorNameAsVariable false
namespace Go.AM
open Go.Proofs
set_option linter.unusedVariables false
set_option linter.unusedSimpArgs false
set_option linter.constructorNameAsVariable false
set_option maxRecDepth 20000
def win (n lo hi : Int) : Bool := decide (lo ≤ n) && decide (n ≤ hi)
section
variable {β : Type} {P : Program} {T : Tab} {D : DTab} {N : Nat} {K : AV → Hp → Option β}
abbrev encD (y m d : Int) : AV := .agg [I y, I m, I d]
theorem F_calendar_is_val (a : Int) (h : Hp) : F_calendar_is [I a] h = some (B (win a 0 100000), h) := F_calendar_is_run rfl (by simp [f_calendar_is, win]) h
theorem F_calendar_leap_val (y : Int) (hy : 0 ≤ y) (h : Hp) : F_calendar_leap [I y] h = some (B (Cal.leapB y), h) := by
  refine F_calendar_leap_run rfl ?_ h
  have r4 := fun k : Go.AM.K AV => reck_remZ (P := Tryz.prog) (ty := 3) y 4 hy (by omega) k
  have r100 := fun k : Go.AM.K AV => reck_remZ (P := Tryz.prog) (ty := 3) y 100 hy (by omega) k
  have r400 := fun k : Go.AM.K AV => reck_remZ (P := Tryz.prog) (ty := 3) y 400 hy (by omega) k
  simp only [f_calendar_leap, r4, eqK_int]
  by_cases h4 : y % 4 = 0
  · simp [r100, r400, h4, Cal.leapB, bne]
  · have : (y % 4 == 0) = false := by simpa using h4
    simp [this, h4, Cal.leapB]
theorem F_calendar_length_val (y m : Int) (hy : 0 ≤ y) (h1 : 1 ≤ m) (h2 : m ≤ 12) (h : Hp) : F_calendar_length [I y, I m] h = some (I (Cal.len y m), h) := by
  refine F_calendar_length_run rfl ?_ h
  have fl := F_calendar_leap_val y hy
  rcases Cal.months h1 h2 with rfl | rfl | rfl | rfl | rfl | rfl | rfl | rfl | rfl | rfl | rfl | rfl
  case inr.inl => cases hl : Cal.leapB y <;> simp [f_calendar_length, buildK, fillA, fl, hl, Cal.len, iaA]
  all_goals simp [f_calendar_length, buildK, fillA, Cal.len, iaA]
theorem G_calendar_length_val (y m : Int) (hy : 0 ≤ y) (h1 : 1 ≤ m) (h2 : m ≤ 12) (h : Hp) (base : Nat) : G_calendar_length [I y, I m] h base = some (I (Cal.len y m), EF []) := (closedXD_val (F_calendar_length_val y m hy h1 h2 h) base).trans (by simp [idss, ids])
theorem F_calendar_before_1_val (n : Int) (h0 : 0 ≤ n) (h1 : n ≤ 100000) (h : Hp) : F_calendar_before_1 [I n] h = some (I (Cal.leaps n), h) := by
  refine F_calendar_before_1_run rfl ?_ h
  have r4 := fun k : Go.AM.K AV => reck_quoZ (P := Tryz.prog) (ty := 3) n 4 h0 (by omega) (by omega) k
  have r100 := fun k : Go.AM.K AV => reck_quoZ (P := Tryz.prog) (ty := 3) n 100 h0 (by omega) (by omega) k
  have r400 := fun k : Go.AM.K AV => reck_quoZ (P := Tryz.prog) (ty := 3) n 400 h0 (by omega) (by omega) k
  have w1 : IntKind.i64.wrap (n / 4 - n / 100) = n / 4 - n / 100 := wrap64 (by omega) (by omega)
  have w2 : IntKind.i64.wrap (n / 4 - n / 100 + n / 400) = n / 4 - n / 100 + n / 400 := wrap64 (by omega) (by omega)
  simp [f_calendar_before_1, r4, r100, r400, w1, w2, Cal.leaps]
theorem F_calendar_before_val (y : Int) (h0 : 1 ≤ y) (h1 : y ≤ 100000) (h : Hp) : F_calendar_before [I y] h = some (I (Cal.bef y), h) := by
  refine F_calendar_before_run rfl ?_ h
  have l1 := F_calendar_before_1_val (y - 1) (by omega) (by omega)
  have l2 := F_calendar_before_1_val 1899 (by omega) (by omega)
  have e2 : Cal.leaps 1899 = 460 := by decide
  rw [e2] at l2
  have w1 : IntKind.i64.wrap (y - 1900) = y - 1900 := wrap64 (by omega) (by omega)
  have w2 : IntKind.i64.wrap (365 * (y - 1900)) = 365 * (y - 1900) := wrap64 (by omega) (by omega)
  have w3 : IntKind.i64.wrap (y - 1) = y - 1 := wrap64 (by omega) (by omega)
  have bd : 0 ≤ Cal.leaps (y - 1) ∧ Cal.leaps (y - 1) ≤ 100000 := by unfold Cal.leaps; omega
  have w4 : IntKind.i64.wrap (365 * (y - 1900) + Cal.leaps (y - 1)) = 365 * (y - 1900) + Cal.leaps (y - 1) := wrap64 (by omega) (by omega)
  have w5 : IntKind.i64.wrap (365 * (y - 1900) + Cal.leaps (y - 1) - 460) = 365 * (y - 1900) + Cal.leaps (y - 1) - 460 := wrap64 (by omega) (by omega)
  simp [f_calendar_before, w1, w2, w3, l1, l2, w4, w5, Cal.bef]
theorem G_calendar_before_val (y : Int) (h0 : 1 ≤ y) (h1 : y ≤ 100000) (h : Hp) (base : Nat) : G_calendar_before [I y] h base = some (I (Cal.bef y), EF []) := (closedXD_val (F_calendar_before_val y h0 h1 h) base).trans (by simp [idss, ids])
abbrev dateH (y m d : Int) : Hp := [.arr 3 [[I 0, I 0, I 0]] true false, .arr 3 [[I y, I m, I d]] true false]
theorem bef_big {y : Int} (h : Cal.bef y ≤ 110000) : y ≤ 2300 := by
  by_cases hy : y ≤ 2300
  · exact hy
  · have := Cal.bef_mono (show (2300 : Int) ≤ y by omega)
    have e : Cal.bef 2300 = 146097 := by decide
    omega
theorem date_L4 (hT : T 135 = some F_calendar_before) {x0 : AV → AV → AV → Hp → Option β} (day : Int) (hd : day ≤ 100000) : ∀ (n : Nat) (y : Int), 1900 ≤ y → Cal.bef y ≤ day → day - Cal.bef y < n →
    ∃ y', 1900 ≤ y' ∧ Cal.bef y' ≤ day ∧ day < Cal.bef (y' + 1) ∧ f_calendar_date_L4 P T D N x0 n (I day) (.ptr 0 0 0 1) (.ptr 1 0 0 1) (dateH y 1 1) = x0 (I day) (.ptr 0 0 0 1) (.ptr 1 0 0 1) (dateH y' 1 1) := by
  intro n
  induction n with
  | zero => intro y _ _ h; omega
  | succ n ih =>
    intro y h1 h2 h3
    have hy := bef_big (y := y) (by omega)
    have e0 : f_calendar_date_L4 P T D N x0 (n + 1) (I day) (.ptr 0 0 0 1) (.ptr 1 0 0 1) (dateH y 1 1) = f_calendar_date_b4 P T D N (f_calendar_date_L4 P T D N x0 n) x0 (I day) (.ptr 0 0 0 1) (.ptr 1 0 0 1) (dateH y 1 1) := rfl
    have w1 : IntKind.i64.wrap (y + 1) = y + 1 := wrap64 (by omega) (by omega)
    have fb := F_calendar_before_val (y + 1) (by omega) (by omega)
    by_cases h4 : Cal.bef (y + 1) ≤ day
    · have := Cal.bef_succ y
      have := Cal.yl_pos y
      obtain ⟨y', q1, q2, q3, q4⟩ := ih (y + 1) (by omega) h4 (by omega)
      refine ⟨y', q1, q2, q3, ?_⟩
      rw [e0, ← q4]
      simp [f_calendar_date_b4, hT, w1, fb, h4]
    · refine ⟨y, h1, h2, by omega, ?_⟩
      rw [e0]
      simp [f_calendar_date_b4, hT, w1, fb, h4]
theorem date_L3 (hT : T 126 = some F_calendar_length) {x2 : AV → AV → AV → Hp → Option β} (day y : Int) (hy : 1900 ≤ y) : ∀ (n : Nat) (m : Int), 1 ≤ m → m ≤ 12 → (12 - m).toNat < n → 0 ≤ day - Cal.dn y m → day - Cal.dn y m < 400 → day < Cal.bef (y + 1) →
    ∃ m' r, 1 ≤ m' ∧ m' ≤ 12 ∧ 0 ≤ r ∧ r < Cal.len y m' ∧ Cal.dn y m' + r = day ∧ f_calendar_date_L3 P T D N x2 n (I (day - Cal.dn y m)) (.ptr 0 0 0 1) (.ptr 1 0 0 1) (dateH y m 1) = x2 (I r) (.ptr 0 0 0 1) (.ptr 1 0 0 1) (dateH y m' 1) := by
  intro n
  induction n with
  | zero => intro m _ _ h; omega
  | succ n ih =>
    intro m h1 h2 h3 h4 h5 h6
    have e0 : f_calendar_date_L3 P T D N x2 (n + 1) (I (day - Cal.dn y m)) (.ptr 0 0 0 1) (.ptr 1 0 0 1) (dateH y m 1) = f_calendar_date_b3 P T D N (f_calendar_date_L3 P T D N x2 n) x2 (I (day - Cal.dn y m)) (.ptr 0 0 0 1) (.ptr 1 0 0 1) (dateH y m 1) := rfl
    have fl := F_calendar_length_val y m (by omega) h1 h2
    have hl := Cal.len_pos y m
    have hd := Cal.pre_succ y h1 h2
    have hdn : Cal.dn y (m + 1) = Cal.dn y m + Cal.len y m := by unfold Cal.dn; omega
    by_cases hc : Cal.len y m ≤ day - Cal.dn y m
    · have hm : m ≠ 12 := by
        rintro rfl
        have := Cal.bef_succ y
        have q := Cal.pre_13 y
        simp [q] at hd
        unfold Cal.dn at hc
        omega
      have w1 : IntKind.i64.wrap (day - Cal.dn y m - Cal.len y m) = day - Cal.dn y (m + 1) := by rw [wrap64 (by omega) (by omega)]; omega
      have w2 : IntKind.i64.wrap (m + 1) = m + 1 := wrap64 (by omega) (by omega)
      obtain ⟨m', r, q1, q2, q3, q4, q5, q6⟩ := ih (m + 1) (by omega) (by omega) (by omega) (by omega) (by omega) h6
      refine ⟨m', r, q1, q2, q3, q4, q5, ?_⟩
      rw [e0, ← q6]
      simp [f_calendar_date_b3, hT, fl, hc, w1, w2]
    · refine ⟨m, day - Cal.dn y m, h1, h2, h4, by omega, by omega, ?_⟩
      rw [e0]
      simp [f_calendar_date_b3, hT, fl, hc]
theorem F_calendar_date_val (day : Int) (h0 : 0 ≤ day) (hd : day ≤ 100000) : ∃ y m d, Cal.Is day y m d ∧ ∀ h, F_calendar_date [I day] h = some (encD y m d, h) := by
  have r1 := fun k : Go.AM.K AV => reck_quoZ (P := Tryz.prog) (ty := 3) day 366 h0 (by omega) (by omega) k
  have hb := Cal.bef_le (day / 366) (by omega)
  have w1 : IntKind.i64.wrap (1900 + day / 366) = 1900 + day / 366 := wrap64 (by omega) (by omega)
  obtain ⟨y, q1, q2, q3, q4⟩ := date_L4 (P := Tryz.prog) (T := t_calendar_date) (D := d_calendar_date) (N := NN) rfl (x0 := fun w58_0 w58_2 w58_3 h => f_calendar_date_j1 Tryz.prog t_calendar_date d_calendar_date NN (fun v g => cvt false g v) w58_0 w58_2 w58_3 h) day hd NN (1900 + day / 366) (by omega) (by omega) (by have := NN_ge; omega)
  have hy := bef_big (y := y) (by omega)
  have hbs := Cal.bef_succ y
  have hyl := Cal.yl_pos y
  have hdn1 : Cal.dn y 1 = Cal.bef y := by unfold Cal.dn; rw [Cal.pre_1]; omega
  obtain ⟨m, r, p1, p2, p3, p4, p5, p6⟩ := date_L3 (P := Tryz.prog) (T := t_calendar_date) (D := d_calendar_date) (N := NN) rfl (x2 := fun w45_0 w45_2 w45_3 h => f_calendar_date_j2 Tryz.prog t_calendar_date d_calendar_date NN (fun v g => cvt false g v) w45_0 w45_2 w45_3 h) day y q1 NN 1 (by omega) (by omega) (by have := NN_ge; omega) (by omega) (by omega) q3
  rw [hdn1] at p6
  have hlp := Cal.len_pos y m
  refine ⟨y, m, 1 + r, ⟨q1, ⟨p1, p2⟩, by omega, by omega⟩, fun h => ?_⟩
  refine F_calendar_date_run rfl ?_ h
  have fb := F_calendar_before_val y (by omega) (by omega)
  have w2 : IntKind.i64.wrap (day - Cal.bef y) = day - Cal.bef y := wrap64 (by omega) (by omega)
  have w3 : IntKind.i64.wrap (1 + r) = 1 + r := wrap64 (by omega) (by omega)
  refine Eq.trans ?_ (q4.trans ?_)
  · simp [f_calendar_date, r1, w1, buildK, fillA, boxE]
  · refine Eq.trans ?_ (p6.trans ?_)
    · simp [f_calendar_date_j1, fb, w2]
    · simp [f_calendar_date_j2, w3]
theorem F_calendar_Date_val (day : Int) (h0 : 0 ≤ day) (hd : day ≤ 100000) : ∃ y m d, Cal.Is day y m d ∧ ∀ h, F_calendar_Date [I day] h = some (.tup [encD y m d, I 0], h) := by
  obtain ⟨y, m, d, hi, hf⟩ := F_calendar_date_val day h0 hd
  refine ⟨y, m, d, hi, fun h => F_calendar_Date_run rfl ?_ h⟩
  have hw : win day 0 100000 = true := by simp [win]; omega
  simp [f_calendar_Date, F_calendar_is_val, hw, hf]
theorem number_L2 (hT : T 126 = some F_calendar_length) {x0 : AV → Hp → Option β} (y m d : Int) (hy : 1900 ≤ y) (h12 : m ≤ 12) (a : Int) (ha : 0 ≤ a ∧ a ≤ 200000) : ∀ (n : Nat) (k : Int), 1 ≤ k → k ≤ m → (m - k).toNat < n →
    f_calendar_number_L2 P T D N x0 n (.ptr 0 0 0 1) (I (a + Cal.pre y k)) (I k) [.arr 3 [[I y, I m, I d]] true false] = x0 (I (a + Cal.pre y m)) [.arr 3 [[I y, I m, I d]] true false] := by
  intro n
  induction n with
  | zero => intro k _ _ h; omega
  | succ n ih =>
    intro k h1 h2 h3
    show f_calendar_number_b2 P T D N (f_calendar_number_L2 P T D N x0 n) x0 _ _ _ _ = _
    by_cases hc : k < m
    · have fl := F_calendar_length_val y k (by omega) h1 (by omega)
      have hp := Cal.pre_succ y h1 (show k ≤ 12 by omega)
      have hb := Cal.pre_bd y h1 (show k ≤ 12 by omega)
      have hl := Cal.len_pos y k
      have hyl := Cal.yl_pos y
      have w1 : IntKind.i64.wrap (a + Cal.pre y k + Cal.len y k) = a + Cal.pre y (k + 1) := by rw [wrap64 (by omega) (by omega)]; omega
      have w2 : IntKind.i64.wrap (k + 1) = k + 1 := wrap64 (by omega) (by omega)
      rw [← ih (k + 1) (by omega) (by omega) (by omega)]
      simp [f_calendar_number_b2, hc, hT, fl, w1, w2]
    · have : k = m := by omega
      subst this
      simp [f_calendar_number_b2]
theorem F_calendar_number_val (y m d : Int) (hy : 1900 ≤ y) (hy2 : y ≤ 2200) (h1 : 1 ≤ m) (h12 : m ≤ 12) (d1 : 1 ≤ d) (d2 : d ≤ 31) (h : Hp) : F_calendar_number [encD y m d] h = some (I (Cal.dn y m + (d - 1)), h) := by
  refine F_calendar_number_run rfl ?_ h
  have g1 := G_calendar_before_val y (by omega) (by omega)
  have b0 := Cal.bef_mono hy
  rw [Cal.bef_0] at b0
  have b1 := Cal.bef_mono hy2
  have e : Cal.bef 2200 = 109573 := by decide
  rw [e] at b1
  have w1 : IntKind.i64.wrap (Cal.bef y + d) = Cal.bef y + d := wrap64 (by omega) (by omega)
  have w2 : IntKind.i64.wrap (Cal.bef y + d - 1) = Cal.bef y + d - 1 := wrap64 (by omega) (by omega)
  have L := number_L2 (P := Tryz.prog) (T := t_calendar_number) (D := d_calendar_number) (N := NN) rfl (x0 := fun w21_3 h => f_calendar_number_j1 Tryz.prog t_calendar_number d_calendar_number NN (fun v g => cvt false g v) w21_3 h) y m d hy h12 (Cal.bef y + d - 1) ⟨by omega, by omega⟩ NN 1 (by omega) h1 (by have := NN_ge; omega)
  rw [Cal.pre_1] at L
  refine Eq.trans ?_ (L.trans ?_)
  · simp [f_calendar_number, boxE, effD_y, callE_F, g1, w1, w2, disjAll, disj2, wrOf, idsOf]
  · simp [f_calendar_number_j1, Cal.dn]; omega
set_option maxHeartbeats 2000000 in
theorem F_calendar_Day_val (y m : Int) (hy : 1900 ≤ y) (hy2 : y ≤ 2200) (h1 : 1 ≤ m) (h12 : m ≤ 12) (h : Hp) : F_calendar_Day [encD y m 1] h = some (if Cal.dn y m ≤ 100000 then .tup [I (Cal.dn y m), I 0] else .tup [I 0, I 1], h) := by
  refine F_calendar_Day_run rfl ?_ h
  have b0 := Cal.bef_mono hy
  rw [Cal.bef_0] at b0
  have hl := Cal.len_pos y m
  have gl := G_calendar_length_val y m (by omega) h1 h12
  have fn := F_calendar_number_val y m 1 hy hy2 h1 h12 (by omega) (by omega)
  have hp := Cal.pre_bd y h1 h12
  have e0 : Cal.dn y m + (1 - 1) = Cal.dn y m := by omega
  rw [e0] at fn
  have hd0 : 0 ≤ Cal.dn y m := by unfold Cal.dn; omega
  have gi : ∀ (a : Int) (h : Hp) (base : Nat), G_calendar_is [I a] h base = some (B (win a 0 100000), EF []) := fun a h base => (closedXD_val (F_calendar_is_val a h) base).trans (by simp [idss, ids])
  have c1 : ¬ y < 1900 := by omega
  have c2 : ¬ 2200 < y := by omega
  have c3 : ¬ m < 1 := by omega
  have c4 : ¬ 12 < m := by omega
  have c5 : ¬ Cal.len y m < 1 := by omega
  by_cases hd : Cal.dn y m ≤ 100000
  · obtain ⟨y', m', d', hi, hf⟩ := F_calendar_date_val (Cal.dn y m) hd0 hd
    have hu := hi.unique (y' := y) (m' := m) (d' := 1) ⟨hy, ⟨h1, h12⟩, by omega, by omega⟩
    obtain ⟨rfl, rfl, rfl⟩ := hu
    have gd : ∀ (h : Hp) (base : Nat), G_calendar_date [I (Cal.dn y' m')] h base = some (encD y' m' 1, EF []) := fun h base => (closedXD_val (hf h) base).trans (by simp [idss, ids])
    have hw : win (Cal.dn y' m') 0 100000 = true := by simp [win, hd0, hd]
    simp [f_calendar_Day, boxE, c1, c2, c3, c4, c5, gl, fn, gi, gd, hw, hd, disjAll, disj2, wrOf, idsOf]
  · have hw : win (Cal.dn y m) 0 100000 = false := by simp [win]; omega
    simp [f_calendar_Day, boxE, c1, c2, c3, c4, c5, gl, fn, gi, hw, hd, disjAll, disj2, wrOf, idsOf]
end
end Go.AM


namespace Go.AM
open Go.Proofs
set_option linter.unusedVariables false
set_option linter.unusedSimpArgs false
set_option linter.constructorNameAsVariable false
structure Leg where
  day : Int
  kind : Int
  place : Int
  to : Int
  alc : Int
deriving DecidableEq
def encL (x : Leg) : List AV := [I x.day, I x.kind, I x.place, I x.to, I x.alc]
structure Jny where
  dep : Int
  spl : Int
  lost : Int
  arr : Int
  tra : Int
  frm : Int
  to : Int
  halt : Bool
  endd : Bool
deriving DecidableEq
def encJ (j : Jny) : List AV := [I j.dep, I j.spl, I j.lost, I j.arr, I j.tra, I j.frm, I j.to, B j.halt, B j.endd]
def zeroJ : Jny := ⟨0, 0, 0, 0, 0, 0, 0, false, false⟩
def partL (x : Leg) : Bool := x.place == 0 && x.to == 0 && win x.alc 1 10737418240000
def formL (x : Leg) : Bool :=
  if x.kind = 1 then win x.place 1 99 && win x.to 1 99 && x.place != x.to && win x.alc 1 10737418240000
  else if x.kind = 2 then win x.place 1 99 && x.to == 0 && x.alc == 0
  else if x.kind = 3 then x.place == 0 && x.to == 0 && x.alc == 0
  else if x.kind = 4 then x.place == 0 && win x.to 1 99 && x.alc == 0
  else if x.kind = 5 then partL x
  else if x.kind = 6 then partL x
  else win x.place 1 99 && x.to == 0 && win x.alc 0 10737418240000
def refL (j : Jny) (k : Int) : Bool := if k = 2 then j.halt else if k = 3 then !j.halt else if k = 7 then j.halt else false
def faultL (j : Jny) (begun : Bool) (last : Int) (x : Leg) : Int :=
  if (win x.day 0 100000 && win x.kind 1 7 && formL x) = false then 2
  else if x.day < last then 5
  else if ((begun == decide (x.kind = 1)) || j.endd || refL j x.kind) = true then 11
  else if (x.kind = 4 ∧ x.to = j.frm) ∨ (x.kind = 7 ∧ x.place ≠ j.to) then 10
  else if 5 ≤ x.kind ∧ j.tra < x.alc then 17 else 0
def actL (j : Jny) (x : Leg) : Jny :=
  if x.kind = 1 then ⟨x.alc, 0, 0, 0, x.alc, x.place, x.to, false, false⟩
  else if x.kind = 2 then { j with halt := true }
  else if x.kind = 3 then { j with halt := false }
  else if x.kind = 4 then { j with to := x.to }
  else if x.kind = 5 then { j with spl := j.spl + x.alc, tra := j.tra - x.alc }
  else if x.kind = 6 then { j with lost := j.lost + x.alc, tra := j.tra - x.alc }
  else { j with arr := x.alc, lost := j.lost + j.tra - x.alc, tra := 0, endd := true }
structure InvJ (j : Jny) : Prop where
  sum : j.dep = j.tra + j.spl + j.lost + j.arr
  dep : j.dep ≤ 10737418240000
  tra : 0 ≤ j.tra
  spl : 0 ≤ j.spl
  lost : 0 ≤ j.lost
  arr : 0 ≤ j.arr
  en : j.endd = true → j.tra = 0
  ne : j.endd = false → j.arr = 0
theorem invZ : InvJ zeroJ := ⟨rfl, by decide, by decide, by decide, by decide, by decide, by decide, by decide⟩
theorem faultL_0 {j : Jny} {begun : Bool} {last : Int} {x : Leg} (h : faultL j begun last x = 0) :
    (0 ≤ x.day ∧ x.day ≤ 100000) ∧ (1 ≤ x.kind ∧ x.kind ≤ 7) ∧ formL x = true ∧ last ≤ x.day ∧ (x.kind = 1 ↔ begun = false) ∧ j.endd = false ∧ refL j x.kind = false ∧ ¬ (x.kind = 4 ∧ x.to = j.frm) ∧ ¬ (x.kind = 7 ∧ x.place ≠ j.to) ∧ ¬ (5 ≤ x.kind ∧ j.tra < x.alc) := by
  unfold faultL at h
  split at h
  · simp at h
  · rename_i h1
    split at h
    · simp at h
    · rename_i h2
      split at h
      · simp at h
      · rename_i h3
        split at h
        · simp at h
        · rename_i h4
          split at h
          · simp at h
          · rename_i h5
            simp only [Bool.not_eq_false, Bool.and_eq_true, win, decide_eq_true_eq] at h1
            simp only [Bool.or_eq_true, not_or, Bool.not_eq_true] at h3
            rw [not_or] at h4
            refine ⟨h1.1.1, h1.1.2, h1.2, by omega, ?_, h3.1.2, h3.2, h4.1, h4.2, h5⟩
            have := h3.1.1
            cases begun <;> by_cases q : x.kind = 1 <;> simp [q] at this ⊢
theorem formL_bd {x : Leg} (hk : 1 ≤ x.kind ∧ x.kind ≤ 7) (h : formL x = true) : 0 ≤ x.alc ∧ x.alc ≤ 10737418240000 := by
  unfold formL partL at h
  rcases (show x.kind = 1 ∨ x.kind = 2 ∨ x.kind = 3 ∨ x.kind = 4 ∨ x.kind = 5 ∨ x.kind = 6 ∨ x.kind = 7 by omega) with e | e | e | e | e | e | e <;> simp [e, win] at h <;> omega
theorem actL_inv {j : Jny} {begun : Bool} {last : Int} {x : Leg} (hj : InvJ j) (h : faultL j begun last x = 0) : InvJ (actL j x) := by
  obtain ⟨-, hk, hf, -, -, he, -, -, -, hs⟩ := faultL_0 h
  have hb := formL_bd hk hf
  obtain ⟨s1, s2, s3, s4, s5, s6, s7, s8⟩ := hj
  have s8' := s8 he
  unfold actL
  rcases (show x.kind = 1 ∨ x.kind = 2 ∨ x.kind = 3 ∨ x.kind = 4 ∨ x.kind = 5 ∨ x.kind = 6 ∨ x.kind = 7 by omega) with e | e | e | e | e | e | e
  · simp only [e, if_true]; exact ⟨by simp, by simp; omega, by simp; omega, by simp, by simp, by simp, by simp, by simp⟩
  · simp only [e]; exact ⟨s1, s2, s3, s4, s5, s6, s7, s8⟩
  · simp only [e]; exact ⟨s1, s2, s3, s4, s5, s6, s7, s8⟩
  · simp only [e]; exact ⟨s1, s2, s3, s4, s5, s6, s7, s8⟩
  · simp only [e] at hs ⊢; exact ⟨by simp; omega, by simpa using s2, by simp; omega, by simp; omega, by simpa using s5, by simpa using s6, by simp [he], by simpa using s8⟩
  · simp only [e] at hs ⊢; exact ⟨by simp; omega, by simpa using s2, by simp; omega, by simpa using s4, by simp; omega, by simpa using s6, by simp [he], by simpa using s8⟩
  · simp only [e] at hs ⊢; exact ⟨by simp; omega, by simpa using s2, by simp, by simpa using s4, by simp; omega, by simp; omega, by simp, by simp⟩
def runL : Jny → Bool → Int → Nat → List Leg → Jny × Int × Int
  | j, _, _, _, [] => (j, -1, 0)
  | j, bg, last, i, x :: l => if faultL j bg last x = 0 then runL (actL j x) true x.day (i + 1) l else (zeroJ, i, faultL j bg last x)
def okL : Jny → Bool → Int → List Leg → Prop
  | _, _, _, [] => True
  | j, bg, last, x :: l => faultL j bg last x = 0 ∧ okL (actL j x) true x.day l
theorem runL_ok : ∀ (l : List Leg) (j : Jny) (bg : Bool) (last : Int) (i : Nat), okL j bg last l → runL j bg last i l = (l.foldl actL j, -1, 0)
  | [], j, bg, last, i, _ => rfl
  | x :: l, j, bg, last, i, h => by
    rw [runL, if_pos h.1, runL_ok l _ _ _ _ h.2]
    rfl
theorem runL_err : ∀ (l : List Leg) (j : Jny) (bg : Bool) (last : Int) (i : Nat), ¬ okL j bg last l → (runL j bg last i l).1 = zeroJ ∧ 0 ≤ (runL j bg last i l).2.1 ∧ (runL j bg last i l).2.2 ≠ 0
  | [], j, bg, last, i, h => absurd trivial h
  | x :: l, j, bg, last, i, h => by
    rw [runL]
    split
    · rename_i h1
      exact runL_err l _ _ _ _ fun h2 => h ⟨h1, h2⟩
    · rename_i h1
      exact ⟨rfl, by simp, h1⟩
theorem okL_inv : ∀ (l : List Leg) (j : Jny) (bg : Bool) (last : Int), InvJ j → okL j bg last l → InvJ (l.foldl actL j)
  | [], _, _, _, hj, _ => hj
  | x :: l, j, bg, last, hj, h => okL_inv l _ _ _ (actL_inv hj h.1) h.2
theorem okL_app : ∀ (l m : List Leg) (j : Jny) (bg : Bool) (last : Int), okL j bg last (l ++ m) → okL j bg last l
  | [], m, _, _, _, _ => trivial
  | x :: l, m, j, bg, last, h => ⟨h.1, okL_app l m _ _ _ h.2⟩
theorem okL_days : ∀ (l : List Leg) (j : Jny) (bg : Bool) (last : Int), okL j bg last l → (∀ x ∈ l, last ≤ x.day ∧ 0 ≤ x.day ∧ x.day ≤ 100000) ∧ l.Pairwise (fun a b => a.day ≤ b.day)
  | [], _, _, _, _ => by simp
  | x :: l, j, bg, last, h => by
    obtain ⟨h1, -, -, h2, -⟩ := faultL_0 h.1
    obtain ⟨i1, i2⟩ := okL_days l _ _ _ h.2
    refine ⟨?_, List.pairwise_cons.2 ⟨fun b hb => (i1 b hb).1, i2⟩⟩
    intro y hy
    rcases List.mem_cons.1 hy with rfl | hy
    · exact ⟨h2, h1⟩
    · have := i1 y hy; omega
def runS (l : List Leg) : Jny × Int × Int := if 128 < l.length then (zeroJ, -1, 8) else runL zeroJ false 0 0 l
def okS (l : List Leg) : Bool := decide ((runS l).2.2 = 0)
theorem okS_ok {l : List Leg} (h : okS l = true) : l.length ≤ 128 ∧ okL zeroJ false 0 l := by
  simp only [okS, decide_eq_true_eq] at h
  unfold runS at h
  split at h
  · simp at h
  · refine ⟨by omega, ?_⟩
    by_cases hk : okL zeroJ false 0 l
    · exact hk
    · exact absurd h (runL_err l _ _ _ 0 hk).2.2
theorem okS_of {l : List Leg} (h1 : l.length ≤ 128) (h2 : okL zeroJ false 0 l) : runS l = (l.foldl actL zeroJ, -1, 0) := by
  unfold runS
  rw [if_neg (by omega), runL_ok l _ _ _ _ h2]
theorem okS_run {l : List Leg} (h : okS l = true) : runS l = (l.foldl actL zeroJ, -1, 0) := okS_of (okS_ok h).1 (okS_ok h).2
theorem runS_err {l : List Leg} (h : okS l = false) : (runS l).1 = zeroJ ∧ (runS l).2.2 ≠ 0 := by
  refine ⟨?_, by simpa [okS] using h⟩
  unfold runS
  split
  · rfl
  · rename_i h1
    refine (runL_err l _ _ _ 0 fun hk => ?_).1
    rw [okS, okS_of (by omega) hk] at h
    simp at h
def untilD (l : List Leg) (day : Int) : List Leg := l.takeWhile fun x => decide (x.day ≤ day)
theorem until_pre (l : List Leg) (day : Int) : ∃ m, l = untilD l day ++ m := ⟨l.dropWhile fun x => decide (x.day ≤ day), (List.takeWhile_append_dropWhile).symm⟩
def atL (l : List Leg) (day : Int) : Jny := (untilD l day).foldl actL zeroJ
theorem until_ok {l : List Leg} (h : okS l = true) (day : Int) : okS (untilD l day) = true := by
  obtain ⟨h1, h2⟩ := okS_ok h
  obtain ⟨m, hm⟩ := until_pre l day
  have h3 : okL zeroJ false 0 (untilD l day) := okL_app _ m _ _ _ (by rw [← hm]; exact h2)
  have h4 : (untilD l day).length ≤ l.length := by have := congrArg List.length hm; rw [List.length_append] at this; omega
  simp [okS, okS_of (show (untilD l day).length ≤ 128 by omega) h3]
theorem at_run {l : List Leg} (h : okS l = true) (day : Int) : runS (untilD l day) = (atL l day, -1, 0) := okS_run (until_ok h day)
theorem at_inv {l : List Leg} (h : okS l = true) (day : Int) : InvJ (atL l day) := okL_inv _ _ _ _ invZ (okS_ok (until_ok h day)).2
end Go.AM


namespace Go.AM
open Go.Proofs
set_option linter.unusedVariables false
set_option linter.unusedSimpArgs false
set_option linter.constructorNameAsVariable false
def endE (l : List Leg) (until_ : Int) : Int := match l.getLast? with | some x => if x.kind = 7 then min until_ x.day else until_ | none => until_
def onR (e : Int) (l : List Leg) : Int := match l.find? (fun x => decide (x.kind = 3)) with | some r => min e r.day | none => e
def haltR (e : Int) : List Leg → Int
  | [] => 0
  | x :: l => (if x.kind = 2 then max 0 (onR e l - x.day) else 0) + haltR e l
def dayStep (s : Int × Int × Int) (x : Leg) : Int × Int × Int :=
  if x.kind = 7 then (x.day, s.2.1, s.2.2) else if x.kind = 2 then (s.1, s.2.1, x.day) else if x.kind = 3 then (s.1, s.2.1 + x.day - s.2.2, -1) else s
def dayClose (s : Int × Int × Int) : Int × Int := (s.1, if 0 ≤ s.2.2 then s.2.1 + (s.1 - s.2.2) else s.2.1)
theorem haltR_late {e : Int} : ∀ {l : List Leg}, (∀ x ∈ l, e < x.day) → haltR e l = 0
  | [], _ => rfl
  | x :: l, h => by
    rw [haltR, haltR_late (fun y hy => h y (by simp [hy]))]
    have := h x (by simp)
    split
    · have : onR e l ≤ e := by
        unfold onR
        split
        · omega
        · omega
      omega
    · rfl
theorem endE_ge {l : List Leg} {until_ d : Int} (h1 : d ≤ until_) (h2 : ∀ x ∈ l, d ≤ x.day) : d ≤ endE l until_ := by
  unfold endE
  cases hl : l.getLast? with
  | none => exact h1
  | some x =>
    have := h2 x (List.mem_of_getLast? hl)
    dsimp only
    split <;> omega
theorem endE_cons {x : Leg} (hx : x.kind ≠ 7) (l : List Leg) (until_ : Int) : endE (x :: l) until_ = endE l until_ := by
  cases l with
  | nil => simp [endE, hx]
  | cons y t => unfold endE; rw [List.getLast?_cons_cons]
theorem days_eq (until_ : Int) : ∀ (l : List Leg) (j : Jny) (bg : Bool) (last h s : Int), okL j bg last l → j.endd = false → (bg = false → j.halt = false) → last ≤ until_ → 0 ≤ last → (if j.halt = true then 0 ≤ s ∧ s ≤ last else s = -1) →
    dayClose ((untilD l until_).foldl dayStep (until_, h, s)) = (endE l until_, h + (if j.halt = true then onR (endE l until_) l - s else 0) + haltR (endE l until_) l)
  | [], j, bg, last, h, s, ok, he, hb, hl, h0, hs => by
    cases hh : j.halt with
    | true =>
      rw [hh, if_pos rfl] at hs
      simp [dayClose, untilD, endE, onR, haltR, hs.1]
    | false =>
      rw [hh, if_neg (by simp)] at hs
      subst hs
      simp [dayClose, untilD, endE, haltR]
  | x :: t, j, bg, last, h, s, ok, he, hb, hl, h0, hs => by
    obtain ⟨f1, f2, f3, f4, f5, f6, f7, f8, f9, f10⟩ := faultL_0 ok.1
    have hdays := okL_days t _ _ _ ok.2
    by_cases hx : x.day ≤ until_
    · have hu : untilD (x :: t) until_ = x :: untilD t until_ := by unfold untilD; rw [List.takeWhile_cons_of_pos (by simpa using hx)]
      rw [hu, List.foldl_cons]
      by_cases k7 : x.kind = 7
      · have hh : j.halt = false := by simpa [refL, k7] using f7
        rw [hh, if_neg (by simp)] at hs
        subst hs
        have ht : t = [] := by
          cases t with
          | nil => rfl
          | cons y t =>
            have := (faultL_0 ok.2.1).2.2.2.2.2.1
            simp [actL, k7] at this
        subst ht
        have hm : min until_ x.day = x.day := by omega
        have hE : endE [x] until_ = x.day := by simp [endE, k7, hm]
        rw [hE, hh]
        simp [dayClose, untilD, dayStep, haltR, k7]
      · have hE := endE_cons k7 t until_
        rw [hE]
        have hge : x.day ≤ endE t until_ := endE_ge hx fun y hy => (hdays.1 y hy).1
        have hon : x.day ≤ onR (endE t until_) t := by
          unfold onR
          split
          · rename_i r hr
            have := (hdays.1 r (List.mem_of_find?_eq_some hr)).1
            omega
          · exact hge
        have hae : (actL j x).endd = false := by
          unfold actL
          split
          · rfl
          · split
            · exact he
            · split
              · exact he
              · split
                · exact he
                · split
                  · exact he
                  · split
                    · exact he
                    · omega
        by_cases k2 : x.kind = 2
        · have hh : j.halt = false := by simpa [refL, k2] using f7
          have ha : (actL j x).halt = true := by simp [actL, k2]
          have ih := days_eq until_ t (actL j x) true x.day h x.day ok.2 hae (by simp) hx f1.1 (by rw [ha, if_pos rfl]; omega)
          have e1 : dayStep (until_, h, s) x = (until_, h, x.day) := by simp [dayStep, k2]
          rw [e1, ih, ha, hh, haltR, if_pos rfl, if_neg (by simp), if_pos k2]
          congr 1
          omega
        · by_cases k3 : x.kind = 3
          · have hh : j.halt = true := by simpa [refL, k3] using f7
            have ha : (actL j x).halt = false := by simp [actL, k3]
            have ih := days_eq until_ t (actL j x) true x.day (h + x.day - s) (-1) ok.2 hae (by simp) hx f1.1 (by rw [ha, if_neg (by simp)])
            have e1 : dayStep (until_, h, s) x = (until_, h + x.day - s, -1) := by simp [dayStep, k3]
            have e2 : onR (endE t until_) (x :: t) = x.day := by
              unfold onR
              rw [List.find?_cons_of_pos (by simpa using k3)]
              show min (endE t until_) x.day = x.day
              omega
            rw [e1, ih, ha, hh, haltR, if_neg (by simp), if_pos rfl, if_neg k2, e2]
            congr 1
            omega
          · have e1 : dayStep (until_, h, s) x = (until_, h, s) := by simp [dayStep, k7, k2, k3]
            have e2 : onR (endE t until_) (x :: t) = onR (endE t until_) t := by
              unfold onR
              rw [List.find?_cons_of_neg (by simpa using k3)]
            have ha : (actL j x).halt = j.halt := by
              by_cases k1 : x.kind = 1
              · have hb' := f5.1 k1
                rw [hb hb']
                simp [actL, k1]
              · unfold actL
                rw [if_neg k1, if_neg k2, if_neg k3]
                split
                · rfl
                · split
                  · rfl
                  · split <;> rfl
            have ih := days_eq until_ t (actL j x) true x.day h s ok.2 hae (by simp) hx f1.1 (by
              rw [ha]
              split
              · rename_i q; rw [if_pos q] at hs; omega
              · rename_i q; rw [if_neg q] at hs; exact hs)
            rw [e1, ih, ha, haltR, if_neg k2, e2]
            congr 1
            omega
    · have hu : untilD (x :: t) until_ = [] := by unfold untilD; rw [List.takeWhile_cons_of_neg (by simpa using hx)]
      have hall : ∀ y ∈ x :: t, until_ < y.day := by
        intro y hy
        rcases List.mem_cons.1 hy with rfl | hy
        · omega
        · have := (hdays.1 y hy).1; omega
      have hE : endE (x :: t) until_ = until_ := by
        unfold endE
        cases hg : (x :: t).getLast? with
        | none => rfl
        | some y =>
          have := hall y (List.mem_of_getLast? hg)
          dsimp only
          split
          · omega
          · rfl
      have hon : onR until_ (x :: t) = until_ := by
        unfold onR
        split
        · rename_i r hr
          have := hall r (List.mem_of_find?_eq_some hr)
          omega
        · rfl
      rw [hu, hE, hon, haltR_late hall]
      cases hh : j.halt with
      | true => rw [hh, if_pos rfl] at hs; simp [dayClose, hs.1]
      | false => rw [hh, if_neg (by simp)] at hs; subst hs; simp [dayClose]
def daysS (l : List Leg) (until_ : Int) : Int × Int × Int :=
  if okS l = false then (0, 0, 1) else if win until_ 0 100000 = false then (0, 0, 2) else match l with
    | [] => (0, 0, 0)
    | x :: _ => if until_ < x.day then (0, 0, 0) else (endE l until_ - x.day, haltR (endE l until_) l, 0)
end Go.AM


namespace Go.AM
open Go.Proofs
set_option linter.unusedVariables false
set_option linter.unusedSimpArgs false
set_option linter.constructorNameAsVariable false
set_option maxRecDepth 20000
structure Allow where
  frm : Int
  cls : Int
  mon : Int
  rate : Int
deriving DecidableEq
def encA (a : Allow) : List AV := [I a.frm, I a.cls, I a.mon, I a.rate]
def badA (a : Allow) : Bool := !win a.frm 0 100000 || !win a.cls 1 9 || !win a.mon 1 12 || !win a.rate 0 10000
def ltA (a b : Allow) : Bool := if a.frm ≠ b.frm then decide (a.frm < b.frm) else if a.cls ≠ b.cls then decide (a.cls < b.cls) else decide (a.mon < b.mon)
theorem ltA_iff (a b : Allow) : ltA a b = true ↔ a.frm < b.frm ∨ (a.frm = b.frm ∧ (a.cls < b.cls ∨ (a.cls = b.cls ∧ a.mon < b.mon))) := by
  unfold ltA
  by_cases e1 : a.frm = b.frm
  · by_cases e2 : a.cls = b.cls
    · simp [e1, e2]
    · simp [e1, e2]
  · simp [e1]
theorem ltA_trans (a b c : Allow) (h1 : ltA a b = true) (h2 : ltA b c = true) : ltA a c = true := by
  rw [ltA_iff] at *; omega
theorem ltA_frm {a b : Allow} (h : ltA a b = true) : a.frm ≤ b.frm := by
  rw [ltA_iff] at h; omega
section
variable {β : Type} {P : Program} {T : Tab} {D : DTab} {N : Nat} {K : AV → Hp → Option β}
theorem F_season_in_val (a b c : Int) (h : Hp) : F_season_in [I a, I b, I c] h = some (B (win a b c), h) := F_season_in_run rfl (by simp [f_season_in, win]) h
theorem F_season_before_val (a b : Allow) (h : Hp) : F_season_before [.agg (encA a), .agg (encA b)] h = some (B (ltA a b), h) := by
  refine F_season_before_run (by simp [encA]) ?_ h
  by_cases h1 : a.frm = b.frm
  · by_cases h2 : a.cls = b.cls
    · simp [f_season_before, encA, ltA, h1, h2]
    · have h2' : (a.cls == b.cls) = false := by simpa using h2
      simp [f_season_before, encA, ltA, h1, h2, h2']
  · have h1' : (a.frm == b.frm) = false := by simpa using h1
    simp [f_season_before, encA, ltA, h1, h1']
def checkA (l : List Allow) : Int × Int := if 128 < l.length then (-1, 8) else (checkG badA ltA none l 0).getD (-1, 0)
theorem season_Check_L2 (hT1 : T 41 = some F_season_in) (hT2 : T 42 = some F_season_before) {x0 : Hp → Option β} {xr : AV → AV → Hp → Option β} {X : Option β} {R : Int → Int → Option β} (hx : ∀ h, x0 h = X) (hr : ∀ a b h, xr (I a) (I b) h = R a b) (l : List Allow) (b : Bool) (hl : l.length < 1000000) :
    ∀ (n : Nat) (pre post : List Allow) (h : Hp), l = pre ++ post → post.length < n →
    f_season_Check_L2 P T D N x0 xr n (.lst 4 b (l.map encA)) (.lst 4 b (l.map encA)) (I l.length) (I pre.length) h = match checkG badA ltA pre.getLast? post pre.length with | none => X | some (a, b) => R a b := by
  intro n
  induction n with
  | zero => intro pre post h _ h2; omega
  | succ n ih =>
    intro pre post h hc hn
    show f_season_Check_b2 P T D N (f_season_Check_L2 P T D N x0 xr n) x0 xr _ _ _ _ h = _
    cases post with
    | nil =>
      have : l = pre := by simpa using hc
      subst this
      simp [f_season_Check_b2, hx, checkG]
    | cons c post =>
      have hi : pre.length < l.length := by rw [hc]; simp
      have hci : l[pre.length]? = some c := by rw [hc]; simp
      have hlt : ((pre.length : Int) < (l.length : Int)) := by omega
      have hw : IntKind.i64.wrap ((pre.length : Int) + 1) = (((pre ++ [c]).length : Nat) : Int) := by rw [wrap64 (by omega) (by omega)]; simp
      have step := fun h => ih (pre ++ [c]) post h (by simpa using hc) (by simpa using hn)
      have hgl : (pre ++ [c]).getLast? = some c := by simp
      rw [hgl] at step
      have e1 : (((pre ++ [c]).length : Nat) : Int) = (pre.length : Int) + 1 := by simp
      rw [checkG]
      by_cases hb : badA c = true
      · have hb' := hb
        simp only [badA] at hb'
        simp [f_season_Check_b2, hlt, hci, encA, hT1, F_season_in_val, hb, hb', hr]
      · have hb' : badA c = false := by simpa using hb
        have hb2 := hb'
        simp only [badA] at hb2
        rw [hb', if_neg (by simp)]
        have ic : ∀ k : Go.AM.K β, iaK 4 (.lst 4 b (l.map encA)) (I pre.length) k = k (.ep (encA c) 0) := fun k => iaK_at pre.length rfl hci k
        simp only [encA] at ic
        rw [e1] at step hw
        rcases List.eq_nil_or_concat pre with rfl | ⟨pre', q, hq⟩
        · have w1 : IntKind.i64.wrap 1 = 1 := wrap64 (by omega) (by omega)
          have hlt0 : (0 : Int) < (l.length : Int) := hlt
          have ic0 : ∀ k : Go.AM.K β, iaK 4 (.lst 4 b (l.map fun a => [I a.frm, I a.cls, I a.mon, I a.rate])) (I 0) k = k (.ep [I c.frm, I c.cls, I c.mon, I c.rate] 0) := ic
          have hen : l.map encA = l.map fun a => [I a.frm, I a.cls, I a.mon, I a.rate] := rfl
          simp only [List.length_nil, hen] at step ⊢
          simp only [f_season_Check_b2, Int.natCast_zero, Int.ofNat_zero, Int.ofNat_eq_natCast, arithK_lss, hlt0, decide_true, condK_bool, if_true, ic0]
          simp [hT1, F_season_in_val, hb2, w1]
          simpa using step (h ++ [.arr 4 [[I c.frm, I c.cls, I c.mon, I c.rate]] true false])
        · have hq : pre = pre' ++ [q] := by rw [hq]; simp
          have hgp : pre.getLast? = some q := by rw [hq]; simp
          have hqi : l[pre'.length]? = some q := by rw [hc, hq]; simp
          have hpl : (pre.length : Int) = (pre'.length : Int) + 1 := by rw [hq]; simp
          have iq : ∀ k : Go.AM.K β, iaK 4 (.lst 4 b (l.map encA)) (I pre'.length) k = k (.ep (encA q) 0) := fun k => iaK_at pre'.length rfl hqi k
          simp only [encA] at iq
          rw [hgp]
          clear hgp hq ih hc
          have hlb : (pre.length : Int) < 1000000 := by omega
          generalize (pre.length : Int) = i at *
          have h0 : (0 : Int) < i := by omega
          have w2 : IntKind.i64.wrap (i - 1) = (pre'.length : Int) := by rw [wrap64 (by omega) (by omega)]; omega
          have fb := F_season_before_val q c
          simp only [encA] at fb
          by_cases ho : ltA q c = true
          · simp [f_season_Check_b2, hlt, iq, ic, hT1, hT2, F_season_in_val, hb2, h0, w2, fb, ho, hw, step]
          · have ho' : ltA q c = false := by simpa using ho
            simp [f_season_Check_b2, hlt, iq, ic, hT1, hT2, F_season_in_val, hb2, h0, w2, fb, ho', hr]
end
end Go.AM


namespace Go.AM
open Go.Proofs
set_option linter.unusedVariables false
set_option linter.unusedSimpArgs false
set_option linter.constructorNameAsVariable false
set_option maxRecDepth 20000
theorem checkA_ok {l : List Allow} (h : (checkA l).2 = 0) : l.length ≤ 128 ∧ (∀ a ∈ l, badA a = false) ∧ l.Pairwise (fun a b => ltA a b = true) := by
  unfold checkA at h
  split at h
  · simp at h
  · cases hc : checkG badA ltA none l 0 with
    | none =>
      obtain ⟨h1, h2, -⟩ := checkG_none ltA_trans l none 0 hc
      exact ⟨by omega, h1, h2⟩
    | some x => rw [hc] at h; exact absurd h (checkG_ne _ _ _ _ hc)
theorem badA_bd {a : Allow} (h : badA a = false) : (0 ≤ a.frm ∧ a.frm ≤ 100000) ∧ (1 ≤ a.cls ∧ a.cls ≤ 9) ∧ (1 ≤ a.mon ∧ a.mon ≤ 12) ∧ 0 ≤ a.rate ∧ a.rate ≤ 10000 := by
  simp [badA, win] at h; omega
section
variable {β : Type} {P : Program} {T : Tab} {D : DTab} {N : Nat} {K : AV → Hp → Option β}
theorem F_season_Check_val (l : List Allow) (b : Bool) (h : Hp) : F_season_Check [.lst 4 b (l.map encA)] h = some (.tup [I (checkA l).1, I (checkA l).2], h) := by
  refine F_season_Check_run rfl ?_ h
  unfold checkA
  by_cases hl : 128 < l.length
  · have hl' : (128 : Int) < (l.length : Int) := by omega
    simp [f_season_Check, hl, hl']
  · have hl' : ¬ (128 : Int) < (l.length : Int) := by omega
    have h1 := season_Check_L2 (β := AV) (P := Tryz.prog) (T := t_season_Check) (D := d_season_Check) (N := NN) (x0 := fun h => f_season_Check_j1 Tryz.prog t_season_Check d_season_Check NN (fun v g => cvt false g v) h) (xr := fun a b h => cvt false h (.tup [a, b])) rfl rfl
      (X := some (.tup [I (-1), I 0])) (R := fun a b => some (.tup [I a, I b])) (fun h => rfl) (fun a b h => rfl) l b (by omega) NN [] l [] rfl (by have := NN_ge; omega)
    simp [f_season_Check, hl, hl'] at h1 ⊢
    refine h1.trans ?_
    cases checkG badA ltA none l 0 <;> rfl
def rightA (l : List Allow) : Bool := decide ((checkA l).2 = 0)
theorem F_season_right_val (l : List Allow) (b : Bool) (h : Hp) : F_season_right [.lst 4 b (l.map encA)] h = some (B (rightA l), h) := by
  refine F_season_right_run rfl ?_ h
  simp [f_season_right, F_season_Check_val, rightA]
  rfl
theorem Search_L2 {x0 : AV → Hp → Option β} {fv : AV} {h : Hp} {n c : Nat} (hn : n < 1000000) (hc : c ≤ n) (hp : ∀ j, j < n → ∀ k : AV → Hp → Option β, callVK T fv [I (j : Nat)] h k = k (B (decide (c ≤ j))) h) : ∀ (m i j : Nat), i ≤ c → c ≤ j → j ≤ n → j - i < m →
    f_sort_Search_L2 Tryz.prog T D N x0 m fv (I i) (I j) h = x0 (I c) h := by
  intro m
  induction m with
  | zero => intro i j _ _ _ h; omega
  | succ m ih =>
    intro i j h1 h2 h3 h4
    show f_sort_Search_b2 Tryz.prog T D N (f_sort_Search_L2 Tryz.prog T D N x0 m) x0 _ _ _ h = _
    by_cases hij : i < j
    · have hij' : (i : Int) < (j : Int) := by omega
      obtain ⟨q, hq⟩ : ∃ q, q = (i + j) / 2 := ⟨_, rfl⟩
      have w1 : IntKind.i64.wrap ((i : Int) + (j : Int)) = ((i + j : Nat) : Int) := by rw [wrap64 (by omega) (by omega)]; omega
      have w2 : IntKind.u64.wrap ((i + j : Nat) : Int) = ((i + j : Nat) : Int) := wrapU (by omega) (by omega)
      have w3 : IntKind.i64.wrap (q : Int) = (q : Int) := wrap64 (by omega) (by omega)
      have w4 : IntKind.i64.wrap ((q : Int) + 1) = ((q + 1 : Nat) : Int) := by rw [wrap64 (by omega) (by omega)]; omega
      have hs : ∀ k : Go.AM.K β, reckK Tryz.prog .shr 111 (.s (.int .u64 ((i + j : Nat) : Int))) (.s (.int .u64 1)) k = k (.s (.int .u64 (q : Int))) := fun k => by
        have := reck_shr (P := Tryz.prog) (ty := 111) (i + j) 1 (by omega) k
        rw [hq]; exact this
      have hpq := hp q (by omega)
      have a1 : ∀ k : Go.AM.K β, arithK .add (I i) (I j) k = k (I ((i + j : Nat) : Int)) := fun k => by rw [arithK_add, w1]
      have a2 : ∀ k : Go.AM.K β, convK Tryz.prog 3 111 (I ((i + j : Nat) : Int)) k = k (.s (.int .u64 ((i + j : Nat) : Int))) := fun k => by rw [convK_int un_3 un_111, w2]
      have a3 : ∀ k : Go.AM.K β, convK Tryz.prog 111 3 (.s (.int .u64 (q : Int))) k = k (I q) := fun k => by rw [convK_int un_111 un_3, w3]
      simp only [f_sort_Search_b2, f_sort_Search_j3, arithK_lss, hij', decide_true, condK_bool, if_true, a1, a2, hs, a3, hpq, notK_bool]
      by_cases hcq : c ≤ q
      · rw [decide_eq_true hcq]
        simp only [Bool.not_true, Bool.false_eq_true, if_false]
        exact ih i q h1 hcq (by omega) (by omega)
      · rw [decide_eq_false hcq]
        simp only [Bool.not_false, if_true, arithK_add, w4]
        exact ih (q + 1) j (by omega) h2 h3 (by omega)
    · have : i = j := by omega
      have : i = c := by omega
      subst this
      have hij' : ¬ (i : Int) < (j : Int) := by omega
      simp [f_sort_Search_b2, hij']
theorem Search_K {K : AV → Hp → Option β} {fv : AV} {h : Hp} {n c : Nat} (hn : n < 1000000) (hN : n < N) (hc : c ≤ n) (hp : ∀ j, j < n → ∀ k : AV → Hp → Option β, callVK T fv [I (j : Nat)] h k = k (B (decide (c ≤ j))) h) :
    f_sort_Search Tryz.prog T D N K (I n) fv h = K (I c) h := by
  have := Search_L2 (D := D) (N := N) (x0 := fun w10_5 h => f_sort_Search_j1 Tryz.prog T D N K w10_5 h) hn hc hp N 0 n (by omega) hc (Nat.le_refl _) (by omega)
  exact this
def upto (l : List Allow) (day : Int) : Nat := (l.takeWhile fun a => decide (a.frm ≤ day)).length
def versionL (l : List Allow) (day : Int) : Option Int := ((l.take (upto l day)).getLast?).map (·.frm)
theorem upto_le (l : List Allow) (day : Int) : upto l day ≤ l.length := tw_le _ _
theorem upto_get {l : List Allow} (hs : l.Pairwise (fun a b => ltA a b = true)) (day : Int) {j : Nat} {a : Allow} (ha : l[j]? = some a) : decide (a.frm ≤ day) = decide (j < upto l day) := by
  obtain ⟨hj, e⟩ := List.getElem?_eq_some_iff.1 ha
  have := tw_get (R := fun a b => ltA a b = true) (p := fun a : Allow => decide (a.frm ≤ day)) (fun a b h hb => by have := ltA_frm h; simp at hb ⊢; omega) hs j hj
  rw [e] at this
  exact this
theorem upto_dec {l : List Allow} (hs : l.Pairwise (fun a b => ltA a b = true)) (day : Int) {j : Nat} {a : Allow} (ha : l[j]? = some a) : decide (day < a.frm) = decide (upto l day ≤ j) := by
  have := upto_get hs day ha
  by_cases h : a.frm ≤ day
  · rw [decide_eq_true h] at this
    have h2 := of_decide_eq_true this.symm
    rw [decide_eq_false (by omega), decide_eq_false (by omega)]
  · rw [decide_eq_false h] at this
    have h2 := of_decide_eq_false this.symm
    rw [decide_eq_true (by omega), decide_eq_true (by omega)]
theorem F_season_version_1_val (l : List Allow) (b : Bool) (day : Int) {a : Allow} (j i1 i2 : Nat) (ha : l[j]? = some a) {h : Hp} (h1 : h[i1]? = some (.arr 1 [[.lst 4 b (l.map encA)]] true false)) (h2 : h[i2]? = some (.arr 1 [[I day]] true false)) :
    F_season_version_1 [I j, .ptr i1 0 0 1, .ptr i2 0 0 1] h = some (B (decide (day < a.frm)), h) := by
  refine F_season_version_1_q (g := []) ?_ rfl
  simp [f_season_version_1, h1, h2, ha, encA]
theorem F_season_on_1_val (l : List Allow) (b : Bool) (day : Int) {a : Allow} (j i1 i2 : Nat) (ha : l[j]? = some a) {h : Hp} (h1 : h[i1]? = some (.arr 1 [[.lst 4 b (l.map encA)]] true false)) (h2 : h[i2]? = some (.arr 1 [[I day]] true false)) :
    F_season_on_1 [I j, .ptr i1 0 0 1, .ptr i2 0 0 1] h = some (B (decide (day < a.frm)), h) := by
  refine F_season_on_1_q (g := []) ?_ rfl
  simp [f_season_on_1, h1, h2, ha, encA]
theorem F_season_rate_1_val (l : List Allow) (b : Bool) (w : Allow) {a : Allow} (j i1 i2 : Nat) (ha : l[j]? = some a) {h : Hp} (h1 : h[i1]? = some (.arr 1 [[.lst 4 b (l.map encA)]] true false)) (h2 : h[i2]? = some (.arr 4 [encA w] true false)) :
    F_season_rate_1 [I j, .ptr i1 0 0 1, .ptr i2 0 0 1] h = some (B (!ltA a w), h) := by
  refine F_season_rate_1_q (g := []) ?_ rfl
  have fb := F_season_before_val a w
  simp only [encA] at h2 fb
  simp [f_season_rate_1, h1, h2, ha, encA, fb]
theorem F_Search_version (l : List Allow) (b : Bool) (day : Int) (hs : l.Pairwise (fun a b => ltA a b = true)) (hl : l.length < 1000000) (i1 i2 : Nat) {h : Hp} (h1 : h[i1]? = some (.arr 1 [[.lst 4 b (l.map encA)]] true false)) (h2 : h[i2]? = some (.arr 1 [[I day]] true false)) :
    F_sort_Search__season_version_1 [I l.length, .fn 128 [.ptr i1 0 0 1, .ptr i2 0 0 1]] h = some (I (upto l day), h) := by
  refine F_sort_Search__season_version_1_q (g := []) ?_ rfl
  rw [List.append_nil]
  refine Search_K hl (by have := NN_ge; omega) (upto_le l day) fun j hj k => ?_
  have ha := List.getElem?_eq_getElem hj
  have := F_season_version_1_val l b day j i1 i2 ha h1 h2
  rw [upto_dec hs day ha] at this
  simp [this]
theorem F_Search_on (l : List Allow) (b : Bool) (day : Int) (hs : l.Pairwise (fun a b => ltA a b = true)) (hl : l.length < 1000000) (i1 i2 : Nat) {h : Hp} (h1 : h[i1]? = some (.arr 1 [[.lst 4 b (l.map encA)]] true false)) (h2 : h[i2]? = some (.arr 1 [[I day]] true false)) :
    F_sort_Search__season_on_1 [I l.length, .fn 101 [.ptr i1 0 0 1, .ptr i2 0 0 1]] h = some (I (upto l day), h) := by
  refine F_sort_Search__season_on_1_q (g := []) ?_ rfl
  rw [List.append_nil]
  refine Search_K hl (by have := NN_ge; omega) (upto_le l day) fun j hj k => ?_
  have ha := List.getElem?_eq_getElem hj
  have := F_season_on_1_val l b day j i1 i2 ha h1 h2
  rw [upto_dec hs day ha] at this
  simp [this]
def ahead (l : List Allow) (w : Allow) : Nat := (l.takeWhile fun a => ltA a w).length
theorem ahead_get {l : List Allow} (hs : l.Pairwise (fun a b => ltA a b = true)) (w : Allow) {j : Nat} {a : Allow} (ha : l[j]? = some a) : (!ltA a w) = decide (ahead l w ≤ j) := by
  obtain ⟨hj, e⟩ := List.getElem?_eq_some_iff.1 ha
  have := tw_get (R := fun a b => ltA a b = true) (p := fun a : Allow => ltA a w) (fun a b h hb => ltA_trans a b w h hb) hs j hj
  rw [e] at this
  rw [this]
  unfold ahead
  by_cases h : j < (l.takeWhile fun a => ltA a w).length
  · rw [decide_eq_true h, decide_eq_false (by omega)]; rfl
  · rw [decide_eq_false h, decide_eq_true (by omega)]; rfl
theorem F_Search_rate (l : List Allow) (b : Bool) (w : Allow) (hs : l.Pairwise (fun a b => ltA a b = true)) (hl : l.length < 1000000) (i1 i2 : Nat) {h : Hp} (h1 : h[i1]? = some (.arr 1 [[.lst 4 b (l.map encA)]] true false)) (h2 : h[i2]? = some (.arr 4 [encA w] true false)) :
    F_sort_Search__season_rate_1 [I l.length, .fn 129 [.ptr i1 0 0 1, .ptr i2 0 0 1]] h = some (I (ahead l w), h) := by
  refine F_sort_Search__season_rate_1_q (g := []) ?_ rfl
  rw [List.append_nil]
  refine Search_K hl (by have := NN_ge; omega) (tw_le _ _) fun j hj k => ?_
  have ha := List.getElem?_eq_getElem hj
  have := F_season_rate_1_val l b w j i1 i2 ha h1 h2
  rw [ahead_get hs w ha] at this
  simp [this]
theorem F_season_version_val (l : List Allow) (b : Bool) (day : Int) (hs : l.Pairwise (fun a b => ltA a b = true)) (hl : l.length < 1000000) (h : Hp) : F_season_version [.lst 4 b (l.map encA), I day] h = some (match versionL l day with | some v => .tup [I v, B true] | none => .tup [I 0, B false], h) := by
  refine F_season_version_run rfl ?_ h
  have fs := F_Search_version l b day hs hl 0 1 (h := [.arr 1 [[.lst 4 b (l.map encA)]] true false, .arr 1 [[I day]] true false]) rfl rfl
  have hu := upto_le l day
  unfold versionL
  by_cases h0 : upto l day = 0
  · rw [h0] at fs ⊢
    simp [f_season_version, fs]
  · obtain ⟨j, hj⟩ : ∃ j, upto l day = j + 1 := ⟨upto l day - 1, by omega⟩
    have hjl : j < l.length := by omega
    have ha := List.getElem?_eq_getElem hjl
    have hg : (l.take (upto l day)).getLast? = some l[j] := by
      rw [hj, List.getLast?_eq_getElem?, List.length_take, Nat.min_eq_left (by omega), List.getElem?_take]
      simp
    rw [hg]
    have w1 : IntKind.i64.wrap ((upto l day : Int) - 1) = (j : Int) := by rw [wrap64 (by omega) (by omega)]; omega
    have hne : ((upto l day : Int) == 0) = false := by simpa using h0
    simp [f_season_version, fs, w1, h0, hne, ha, encA]
def rateAt (l : List Allow) (v cls mon : Int) : Int := match l.find? (fun a => decide (a.frm = v ∧ a.cls = cls ∧ a.mon = mon)) with | some a => a.rate | none => 0
theorem find_ahead {l : List Allow} (hs : l.Pairwise (fun a b => ltA a b = true)) (v cls mon : Int) : l.find? (fun a => decide (a.frm = v ∧ a.cls = cls ∧ a.mon = mon)) = match l[ahead l ⟨v, cls, mon, 0⟩]? with
    | some a => if a.frm = v ∧ a.cls = cls ∧ a.mon = mon then some a else none
    | none => none := by
  induction l with
  | nil => rfl
  | cons a l ih =>
    obtain ⟨h1, h2⟩ := List.pairwise_cons.1 hs
    by_cases hk : a.frm = v ∧ a.cls = cls ∧ a.mon = mon
    · have hn : ltA a ⟨v, cls, mon, 0⟩ = false := by
        cases hq : ltA a ⟨v, cls, mon, 0⟩ with
        | false => rfl
        | true => rw [ltA_iff] at hq; simp at hq; omega
      have : ahead (a :: l) ⟨v, cls, mon, 0⟩ = 0 := by
        unfold ahead; rw [List.takeWhile_cons_of_neg (by simp [hn])]; rfl
      rw [this]
      simp [hk]
    · rw [List.find?_cons_of_neg (by simpa using hk), ih h2]
      by_cases hlt : ltA a ⟨v, cls, mon, 0⟩ = true
      · have : ahead (a :: l) ⟨v, cls, mon, 0⟩ = ahead l ⟨v, cls, mon, 0⟩ + 1 := by
          unfold ahead; rw [List.takeWhile_cons_of_pos (p := fun a => ltA a ⟨v, cls, mon, 0⟩) hlt]; rfl
        rw [this]
        simp
      · have e0 : ahead (a :: l) ⟨v, cls, mon, 0⟩ = 0 := by
          unfold ahead; rw [List.takeWhile_cons_of_neg (p := fun a => ltA a ⟨v, cls, mon, 0⟩) hlt]; rfl
        rw [e0]
        simp only [List.getElem?_cons_zero]
        rw [if_neg hk]
        clear ih
        cases l with
        | nil => rfl
        | cons c l =>
          have hac := h1 c (by simp)
          have hc : ltA c ⟨v, cls, mon, 0⟩ = false := by
            cases hq : ltA c ⟨v, cls, mon, 0⟩ with
            | false => rfl
            | true => exact absurd (ltA_trans a c _ hac hq) hlt
          have e1 : ahead (c :: l) ⟨v, cls, mon, 0⟩ = 0 := by
            unfold ahead; rw [List.takeWhile_cons_of_neg (by simp [hc])]; rfl
          rw [e1]
          simp only [List.getElem?_cons_zero]
          rw [if_neg]
          rintro ⟨q1, q2, q3⟩
          apply hlt
          rw [ltA_iff] at hac ⊢
          simp only
          omega
theorem F_season_rate_val (l : List Allow) (b : Bool) (v cls mon : Int) (hs : l.Pairwise (fun a b => ltA a b = true)) (hl : l.length < 1000000) (h : Hp) : F_season_rate [.lst 4 b (l.map encA), I v, I cls, I mon] h = some (I (rateAt l v cls mon), h) := by
  refine F_season_rate_run rfl ?_ h
  have fs := F_Search_rate l b ⟨v, cls, mon, 0⟩ hs hl 0 1 (h := [.arr 1 [[.lst 4 b (l.map encA)]] true false, .arr 4 [[I v, I cls, I mon, I 0]] true false]) rfl rfl
  have hf := find_ahead hs v cls mon
  unfold rateAt
  rw [hf]
  generalize ahead l ⟨v, cls, mon, 0⟩ = c at *
  by_cases hc : c < l.length
  · obtain ⟨a, ha⟩ : ∃ a, l[c]? = some a := ⟨_, List.getElem?_eq_getElem hc⟩
    have hc' : (c : Int) < (l.length : Int) := by omega
    rw [ha]
    have i1 : ∀ k : Go.AM.K AV, iaK 4 (.lst 4 b (l.map encA)) (I c) k = k (.ep (encA a) 0) := fun k => iaK_at c rfl ha k
    simp only [encA] at i1
    by_cases q1 : a.frm = v
    · by_cases q2 : a.cls = cls
      · by_cases q3 : a.mon = mon
        · simp [f_season_rate, buildK, fillA, fs, hc, hc', i1, encA, q1, q2, q3]
        · have q3' : (a.mon == mon) = false := by simpa using q3
          simp [f_season_rate, buildK, fillA, fs, hc, hc', i1, encA, q1, q2, q3, q3']
      · have q2' : (a.cls == cls) = false := by simpa using q2
        simp [f_season_rate, buildK, fillA, fs, hc, hc', i1, encA, q1, q2, q2']
    · have q1' : (a.frm == v) = false := by simpa using q1
      simp [f_season_rate, buildK, fillA, fs, hc, hc', i1, encA, q1, q1']
  · have ha : l[c]? = none := List.getElem?_eq_none (by omega)
    have hc' : ¬ (c : Int) < (l.length : Int) := by omega
    rw [ha]
    simp [f_season_rate, buildK, fillA, fs, hc, hc']
end
end Go.AM


namespace Go.AM
open Go.Proofs
set_option linter.unusedVariables false
set_option linter.unusedSimpArgs false
set_option linter.constructorNameAsVariable false
set_option maxRecDepth 20000
noncomputable def rateOn (l : List Allow) (cls day : Int) : Int := match versionL l day with
  | none => 0
  | some v => rateAt l v cls (Cal.monthOf day)
theorem rateAt_bd {l : List Allow} (h : ∀ a ∈ l, badA a = false) (v cls mon : Int) : 0 ≤ rateAt l v cls mon ∧ rateAt l v cls mon ≤ 10000 := by
  unfold rateAt
  cases hf : l.find? (fun a => decide (a.frm = v ∧ a.cls = cls ∧ a.mon = mon)) with
  | none => simp
  | some a => have := badA_bd (h a (List.mem_of_find?_eq_some hf)); exact ⟨this.2.2.2.1, this.2.2.2.2⟩
theorem rateOn_bd {l : List Allow} (h : ∀ a ∈ l, badA a = false) (cls day : Int) : 0 ≤ rateOn l cls day ∧ rateOn l cls day ≤ 10000 := by
  unfold rateOn
  cases versionL l day with
  | none => simp
  | some v => exact rateAt_bd h _ _ _
def change (l : List Allow) (day u : Int) : Int := match l[upto l day]? with
  | some a => min u a.frm
  | none => u
theorem upto_same {l : List Allow} (hs : l.Pairwise (fun a b => ltA a b = true)) {day e : Int} (h1 : day ≤ e) (h2 : ∀ a, l[upto l day]? = some a → e < a.frm) : upto l e = upto l day := by
  have hd := upto_le l day
  have he := upto_le l e
  have key : ∀ j, j < l.length → (j < upto l e ↔ j < upto l day) := by
    intro j hj
    have ha := List.getElem?_eq_getElem hj
    have g1 := upto_get hs day ha
    have g2 := upto_get hs e ha
    constructor
    · intro hlt
      rw [decide_eq_true hlt] at g2
      have g2 := of_decide_eq_true g2
      rcases Nat.lt_or_ge j (upto l day) with h | h
      · exact h
      · exfalso
        have hu : upto l day < l.length := by omega
        have hb := h2 _ (List.getElem?_eq_getElem hu)
        have : l[upto l day].frm ≤ l[j].frm := by
          rcases Nat.lt_or_ge (upto l day) j with q | q
          · exact ltA_frm ((List.pairwise_iff_getElem.1 hs) _ _ hu hj q)
          · have : upto l day = j := by omega
            simp [this]
        omega
    · intro hlt
      rw [decide_eq_true hlt] at g1
      have g1 := of_decide_eq_true g1
      rw [decide_eq_true (by omega)] at g2
      exact of_decide_eq_true g2.symm
  rcases Nat.lt_trichotomy (upto l e) (upto l day) with h | h | h
  · have := (key (upto l e) (by omega)).2 h; omega
  · exact h
  · have := (key (upto l day) (by omega)).1 h; omega
theorem upto_lt_frm {l : List Allow} (hs : l.Pairwise (fun a b => ltA a b = true)) {day : Int} {a : Allow} (h : l[upto l day]? = some a) : day < a.frm := by
  have := upto_get hs day h
  simp at this
  omega
section
variable {β : Type} {P : Program} {T : Tab} {D : DTab} {N : Nat} {K : AV → Hp → Option β}
theorem F_season_on_val (l : List Allow) (b : Bool) (cls day : Int) (hs : l.Pairwise (fun a b => ltA a b = true)) (hg : ∀ a ∈ l, badA a = false) (hl : l.length < 1000000) (h0 : 0 ≤ day) (h1 : day ≤ 100000) :
    ∃ u, day < u ∧ u ≤ 100001 ∧ (∀ e, day ≤ e → e < u → rateOn l cls e = rateOn l cls day) ∧ ∀ h, F_season_on [.lst 4 b (l.map encA), I cls, I day] h = some (.tup [I (rateOn l cls day), I u], h) := by
  obtain ⟨y, m, d, hi, hD⟩ := F_calendar_Date_val day h0 h1
  have hm := hi.month
  have hy := hi.year_le h1
  have hyl := hi.year
  have hny : 1900 ≤ Cal.ny y m ∧ Cal.ny y m ≤ 2200 := by have := hi.year; unfold Cal.ny; split <;> omega
  have hnm := Cal.nm_bd hm.1 hm.2
  have hday := F_calendar_Day_val (Cal.ny y m) (Cal.nm m) hny.1 hny.2 hnm.1 hnm.2
  have hmo := hi.month_eq h0
  have hlt := hi.next_lt
  obtain ⟨u0, hu0⟩ : ∃ u0, u0 = if Cal.dn (Cal.ny y m) (Cal.nm m) ≤ 100000 then Cal.dn (Cal.ny y m) (Cal.nm m) else 100001 := ⟨_, rfl⟩
  have hu0l : day < u0 ∧ u0 ≤ 100001 ∧ u0 ≤ Cal.dn (Cal.ny y m) (Cal.nm m) := by rw [hu0]; split <;> omega
  refine ⟨change l day u0, ?_, ?_, ?_, fun h => F_season_on_run rfl ?_ h⟩
  · unfold change
    cases ha : l[upto l day]? with
    | none => exact hu0l.1
    | some a => have := upto_lt_frm hs ha; simp only; omega
  · unfold change
    cases ha : l[upto l day]? with
    | none => exact hu0l.2.1
    | some a => simp only; omega
  · intro e he1 he2
    have hem : Cal.monthOf e = m := hi.same h0 he1 (by
      have : change l day u0 ≤ u0 := by unfold change; cases l[upto l day]? <;> simp only <;> omega
      omega)
    have hue : upto l e = upto l day := upto_same hs he1 (fun a ha => by
      unfold change at he2
      rw [ha] at he2
      simp only at he2
      omega)
    unfold rateOn versionL
    rw [hem, hmo, hue]
  · -- the run
    obtain ⟨H, hH⟩ : ∃ H : Hp, H = [.arr 1 [[.lst 4 b (l.map encA)]] true false, .arr 1 [[I day]] true false, .arr 3 [[I y, I m, I d]] true false, .arr 3 [[I (Cal.ny y m), I (Cal.nm m), I 1]] true false] := ⟨_, rfl⟩
    have g0 : H[0]? = some (.arr 1 [[.lst 4 b (l.map encA)]] true false) := by rw [hH]; rfl
    have g1 : H[1]? = some (.arr 1 [[I day]] true false) := by rw [hH]; rfl
    have g2 : H[2]? = some (.arr 3 [[I y, I m, I d]] true false) := by rw [hH]; rfl
    have g3 : H[3]? = some (.arr 3 [[I (Cal.ny y m), I (Cal.nm m), I 1]] true false) := by rw [hH]; rfl
    have fs := F_Search_on l b day hs hl 0 1 g0 g1
    have fv := F_season_version_val l b day hs hl
    have fr := fun v => F_season_rate_val l b v cls m hs hl
    have hj3 : ∀ w : Int, f_season_on_j3 Tryz.prog t_season_on d_season_on NN (fun v g => cvt false g v) (I cls) (.ptr 0 0 0 1) (.ptr 1 0 0 1) (.ptr 2 0 0 1) (I w) H = some (.tup [I (rateOn l cls day), I w]) := by
      intro w
      unfold rateOn
      rw [hmo]
      cases hv : versionL l day with
      | none => rw [hv] at fv; simp [f_season_on_j3, g0, g1, fv]
      | some v => rw [hv] at fv; simp [f_season_on_j3, g0, g1, g2, fv, fr]
    have hj2 : f_season_on_j2 Tryz.prog t_season_on d_season_on NN (fun v g => cvt false g v) (I cls) (.ptr 0 0 0 1) (.ptr 1 0 0 1) (.ptr 2 0 0 1) (I u0) H = some (.tup [I (rateOn l cls day), I (change l day u0)]) := by
      unfold change
      by_cases hc : upto l day < l.length
      · obtain ⟨a, ha⟩ : ∃ a, l[upto l day]? = some a := ⟨_, List.getElem?_eq_getElem hc⟩
        have hc' : (upto l day : Int) < (l.length : Int) := by omega
        have i1 : ∀ k : Go.AM.K AV, iaK 4 (.lst 4 b (l.map encA)) (I (upto l day : Nat)) k = k (.ep (encA a) 0) := fun k => iaK_at (upto l day) rfl ha k
        simp only [encA] at i1
        rw [ha]
        have := hj3 (min u0 a.frm)
        simp [f_season_on_j2, g0, fs, hc', hc, i1, this]
      · have ha : l[upto l day]? = none := List.getElem?_eq_none (by omega)
        have hc' : ¬ (upto l day : Int) < (l.length : Int) := by omega
        rw [ha]
        have := hj3 u0
        simp [f_season_on_j2, g0, fs, hc', hc, this]
    have hj1 : f_season_on_j1 Tryz.prog t_season_on d_season_on NN (fun v g => cvt false g v) (I cls) (.ptr 0 0 0 1) (.ptr 1 0 0 1) (.ptr 2 0 0 1) (.ptr 3 0 0 1) H = some (.tup [I (rateOn l cls day), I (change l day u0)]) := by
      by_cases hd : Cal.dn (Cal.ny y m) (Cal.nm m) ≤ 100000
      · rw [if_pos hd] at hday hu0
        rw [hu0] at hj2 ⊢
        simp [f_season_on_j1, g3, hday, hj2]
      · rw [if_neg hd] at hday hu0
        rw [hu0] at hj2 ⊢
        simp [f_season_on_j1, g3, hday, hj2]
    have w1 : IntKind.i64.wrap (m + 1) = m + 1 := wrap64 (by omega) (by omega)
    have w2 : IntKind.i64.wrap (y + 1) = y + 1 := wrap64 (by omega) (by omega)
    refine Eq.trans ?_ hj1
    rw [hH]
    by_cases h12 : m = 12
    · subst h12
      simp [f_season_on, hD, buildK, fillA, w1, w2, Cal.ny, Cal.nm]
    · have h12' : (m == 12) = false := by simpa using h12
      simp [f_season_on, hD, buildK, fillA, w1, w2, h12, h12', Cal.ny, Cal.nm]
def sumN (f : Int → Int) (a : Int) : Nat → Int
  | 0 => 0
  | n + 1 => f a + sumN f (a + 1) n
theorem sumN_add (f : Int → Int) : ∀ (m n : Nat) (a : Int), sumN f a (m + n) = sumN f a m + sumN f (a + m) n
  | 0, n, a => by simp [sumN]
  | m + 1, n, a => by
    rw [show m + 1 + n = (m + n) + 1 by omega]
    simp only [sumN]
    rw [sumN_add f m n (a + 1), show a + 1 + (m : Int) = a + ((m + 1 : Nat) : Int) by omega]
    omega
theorem sumN_const (f : Int → Int) (r : Int) : ∀ (n : Nat) (a : Int), (∀ e, a ≤ e → e < a + n → f e = r) → sumN f a n = r * n
  | 0, a, h => by simp [sumN]
  | n + 1, a, h => by
    simp only [sumN]
    rw [h a (by omega) (by omega), sumN_const f r n (a + 1) (fun e h1 h2 => h e (by omega) (by omega))]
    have : r * ((n + 1 : Nat) : Int) = r * n + r := by rw [Int.natCast_add, Int.mul_add]; simp
    omega
theorem sumN_bd (f : Int → Int) {b : Int} (hf : ∀ e, 0 ≤ f e ∧ f e ≤ b) (hb : 0 ≤ b) : ∀ (n : Nat) (a : Int), 0 ≤ sumN f a n ∧ sumN f a n ≤ b * n
  | 0, a => by simp [sumN]
  | n + 1, a => by
    have h1 := hf a
    have h2 := sumN_bd f hf hb n (a + 1)
    have : b * ((n + 1 : Nat) : Int) = b * n + b := by rw [Int.natCast_add, Int.mul_add]; simp
    simp only [sumN]
    omega
noncomputable def sumA (l : List Allow) (cls frm to : Int) : Int := sumN (rateOn l cls) frm (to - frm).toNat
theorem sumA_bd {l : List Allow} (hg : ∀ a ∈ l, badA a = false) (cls frm to : Int) (h : to - frm ≤ 100001) : 0 ≤ sumA l cls frm to ∧ sumA l cls frm to ≤ 1000010000 := by
  have := sumN_bd (rateOn l cls) (rateOn_bd hg cls) (by omega) (to - frm).toNat frm
  unfold sumA
  omega
theorem season_sum_L3 (hT : T 81 = some F_season_on) {x0 : AV → Hp → Option β} (l : List Allow) (b : Bool) (cls to : Int) (hs : l.Pairwise (fun a b => ltA a b = true)) (hg : ∀ a ∈ l, badA a = false) (hl : l.length < 1000000) (ht : 0 ≤ to ∧ to ≤ 100000) (v14 : Int) (hv : 0 ≤ v14 ∧ v14 ≤ 100000) (h : Hp) :
    ∀ (n : Nat) (frm i acc : Int), 0 ≤ frm → frm ≤ to → 0 ≤ i → i ≤ v14 → (v14 - i).toNat < n → to - frm ≤ v14 - i → (0 ≤ acc ∧ acc ≤ 100000000000 - 1000000 * (to - frm)) →
    f_season_sum_L3 P T D N x0 n (.lst 4 b (l.map encA)) (I cls) (I frm) (I to) (I acc) (I v14) (I i) h = x0 (I (acc + sumA l cls frm to)) h := by
  intro n
  induction n with
  | zero => intro frm i acc _ _ _ _ h; omega
  | succ n ih =>
    intro frm i acc h1 h2 h3 h4 h5 h6 h7
    show f_season_sum_b3 P T D N (f_season_sum_L3 P T D N x0 n) x0 _ _ _ _ _ _ _ h = _
    by_cases hiv : i < v14
    · by_cases hft : to ≤ frm
      · have : frm = to := by omega
        subst this
        have e : sumA l cls frm frm = 0 := by simp [sumA, sumN]
        simp [f_season_sum_b3, hiv, e]
      · obtain ⟨u, u1, u2, u3, u4⟩ := F_season_on_val l b cls frm hs hg hl h1 (by omega)
        obtain ⟨w, hw⟩ : ∃ w, w = min u to := ⟨_, rfl⟩
        have hwb : frm < w ∧ w ≤ to ∧ w ≤ u := by omega
        have hr := rateOn_bd hg cls frm
        obtain ⟨k, hk⟩ : ∃ k : Nat, w - frm = (k : Int) := Int.eq_ofNat_of_zero_le (by omega)
        have e1 : sumA l cls frm to = rateOn l cls frm * (w - frm) + sumA l cls w to := by
          unfold sumA
          have e2 : (to - frm).toNat = k + (to - w).toNat := by omega
          rw [e2, sumN_add, sumN_const (rateOn l cls) (rateOn l cls frm) k frm (fun e q1 q2 => u3 e q1 (by omega)), hk, show frm + (k : Int) = w by omega]
        have hm : 0 ≤ rateOn l cls frm * (w - frm) ∧ rateOn l cls frm * (w - frm) ≤ 10000 * (w - frm) := ⟨Int.mul_nonneg hr.1 (by omega), Int.mul_le_mul_of_nonneg_right hr.2 (by omega)⟩
        have w1 : IntKind.i64.wrap (w - frm) = w - frm := wrap64 (by omega) (by omega)
        have w2 : IntKind.i64.wrap (rateOn l cls frm * (w - frm)) = rateOn l cls frm * (w - frm) := wrap64 (by omega) (by omega)
        have w3 : IntKind.i64.wrap (acc + rateOn l cls frm * (w - frm)) = acc + rateOn l cls frm * (w - frm) := wrap64 (by omega) (by omega)
        have w4 : IntKind.i64.wrap (i + 1) = i + 1 := wrap64 (by omega) (by omega)
        have step := ih w (i + 1) (acc + rateOn l cls frm * (w - frm)) (by omega) (by omega) (by omega) (by omega) (by omega) (by omega) (by omega)
        rw [e1, ← Int.add_assoc, ← step]
        simp [f_season_sum_b3, hiv, hft, hT, u4, ← hw, w1, w2, w3, w4]
    · have : frm = to := by omega
      subst this
      have e : sumA l cls frm frm = 0 := by simp [sumA, sumN]
      simp [f_season_sum_b3, hiv, e]
theorem F_season_sum_val (l : List Allow) (b : Bool) (cls frm to : Int) (hs : l.Pairwise (fun a b => ltA a b = true)) (hg : ∀ a ∈ l, badA a = false) (hl : l.length < 1000000) (h0 : 0 ≤ frm) (h1 : frm ≤ to) (h2 : to ≤ 100000) (h : Hp) :
    F_season_sum [.lst 4 b (l.map encA), I cls, I frm, I to] h = some (I (sumA l cls frm to), h) := by
  refine F_season_sum_run rfl ?_ h
  have w1 : IntKind.i64.wrap (to - frm) = to - frm := wrap64 (by omega) (by omega)
  have := season_sum_L3 (P := Tryz.prog) (T := t_season_sum) (D := d_season_sum) (N := NN) rfl (x0 := fun w13_9 h => f_season_sum_j2 Tryz.prog t_season_sum d_season_sum NN (fun v g => cvt false g v) w13_9 h) l b cls to hs hg hl ⟨by omega, h2⟩ (to - frm) ⟨by omega, by omega⟩ [] NN frm 0 0 h0 h1 (by omega) (by omega) (by have := NN_ge; omega) (by omega) (by omega)
  refine Eq.trans ?_ (this.trans ?_)
  · simp [f_season_sum, w1]
  · simp [f_season_sum_j2, f_season_sum_j1]
noncomputable def sumS (l : List Allow) (cls frm to : Int) : Int × Int :=
  if rightA l = false then (0, 1) else if (win cls 1 9 && win frm 0 100000 && win to 0 100000) = false then (0, 2) else if to < frm then (0, 5) else (sumA l cls frm to, 0)
theorem rightA_ok {l : List Allow} (h : rightA l = true) : l.length ≤ 128 ∧ (∀ a ∈ l, badA a = false) ∧ l.Pairwise (fun a b => ltA a b = true) := checkA_ok (by simpa [rightA] using h)
noncomputable def allowedS (l : List Allow) (cls alc frm to : Int) : Int × Int :=
  if rightA l = false then (0, 1) else if (win cls 1 9 && win frm 0 100000 && win to 0 100000 && win alc 0 10737418240000) = false then (0, 2) else if to < frm then (0, 5) else (min (alc * sumA l cls frm to / 1000000) alc, 0)
theorem F_season_Allowed_val (l : List Allow) (b : Bool) (cls alc frm to : Int) (h : Hp) : F_season_Allowed [.lst 4 b (l.map encA), I cls, I alc, I frm, I to] h = some (.tup [I (allowedS l cls alc frm to).1, I (allowedS l cls alc frm to).2], h) := by
  refine F_season_Allowed_run rfl ?_ h
  unfold allowedS
  cases hr : rightA l with
  | false => simp [f_season_Allowed, F_season_right_val, hr]
  | true =>
    obtain ⟨h1, h2, h3⟩ := rightA_ok hr
    cases c1 : win cls 1 9 <;> cases c2 : win frm 0 100000 <;> cases c3 : win to 0 100000 <;> cases c4 : win alc 0 10737418240000 <;> simp [f_season_Allowed, F_season_right_val, hr, F_season_in_val, c1, c2, c3, c4]
    simp only [win, Bool.and_eq_true, decide_eq_true_eq] at c2 c3 c4
    by_cases hc : to < frm
    · simp [hc]
    · have fs := F_season_sum_val l b cls frm to h3 h2 (by omega) (by omega) (by omega) (by omega)
      have hb := sumA_bd h2 cls frm to (by omega)
      have fp := F_proportion_Of_val alc (sumA l cls frm to) 1000000
      have hm : (amt alc && amt (sumA l cls frm to) && amt 1000000) = true := by simp [amt]; omega
      generalize sumA l cls frm to = s at *
      by_cases hq : alc * s / 1000000 ≤ 128849018880000
      · have e : propOf alc s 1000000 = (alc * s / 1000000, alc * s % 1000000, 0) := by unfold propOf; rw [hm]; simp [hq]
        rw [e] at fp
        simp [hc, fs, fp]
      · have e : propOf alc s 1000000 = (0, 0, 15) := by unfold propOf; rw [hm]; simp [hq]
        rw [e] at fp
        have hmin : min (alc * s / 1000000) alc = alc := by omega
        simp [hc, fs, fp, hmin]
end
end Go.AM


namespace Go.AM
open Go.Proofs
set_option linter.unusedVariables false
set_option linter.unusedSimpArgs false
set_option linter.constructorNameAsVariable false
set_option maxRecDepth 20000
theorem prod_nat (x y : Nat) : (x / 2147483648) * (y / 2147483648) + ((x % 2147483648) * (y / 2147483648) + (x % 2147483648) * (y % 2147483648) / 2147483648) / 2147483648 +
      ((x / 2147483648) * (y % 2147483648) + ((x % 2147483648) * (y / 2147483648) + (x % 2147483648) * (y % 2147483648) / 2147483648) % 2147483648) / 2147483648 = x * y / 4611686018427387904 ∧
    ((x / 2147483648) * (y % 2147483648) + ((x % 2147483648) * (y / 2147483648) + (x % 2147483648) * (y % 2147483648) / 2147483648) % 2147483648) % 2147483648 * 2147483648 + (x % 2147483648) * (y % 2147483648) % 2147483648 = x * y % 4611686018427387904 := by
  have hx : x = 2147483648 * (x / 2147483648) + x % 2147483648 := by omega
  have hy : y = 2147483648 * (y / 2147483648) + y % 2147483648 := by omega
  generalize x / 2147483648 = a at *
  generalize x % 2147483648 = b at *
  generalize y / 2147483648 = c at *
  generalize y % 2147483648 = d at *
  have e : x * y = 4611686018427387904 * (a * c) + 2147483648 * (b * c + a * d) + b * d := by
    subst hx hy
    rw [Nat.add_mul, Nat.mul_add, Nat.mul_add]
    have e1 : 2147483648 * a * (2147483648 * c) = 4611686018427387904 * (a * c) := by
      rw [Nat.mul_mul_mul_comm]
    have e2 : 2147483648 * a * d = 2147483648 * (a * d) := Nat.mul_assoc _ _ _
    have e3 : b * (2147483648 * c) = 2147483648 * (b * c) := Nat.mul_left_comm _ _ _
    rw [e1, e2, e3]
    omega
  rw [e]
  generalize a * c = A
  generalize b * c = B
  generalize a * d = C
  generalize b * d = E
  omega
section
variable {β : Type} {P : Program} {ty : TypeId}
theorem mask31 (a : Nat) (ha : a < 18446744073709551616) (k : K β) : reckK P .and ty (U a) (.s (.int .u64 2147483647)) k = k (U (a % 2147483648)) := by
  have h1 := reck_and (P := P) (ty := ty) a 2147483647 ha (by decide) k
  have h2 : a &&& 2147483647 = a % 2147483648 := Nat.and_two_pow_sub_one_eq_mod a 31
  rw [h2] at h1
  exact h1
theorem shr31 (a : Nat) (k : K β) : reckK P .shr ty (U a) (.s (.int .u64 31)) k = k (U (a / 2147483648)) := reck_shr a 31 (by decide) k
theorem shl31 (a : Nat) (ha : a < 2147483648) (k : K β) : reckK P .shl ty (U a) (.s (.int .u64 31)) k = k (U (a * 2147483648)) := by
  have := reck_shl (P := P) (ty := ty) a 31 (by decide) k
  rw [show a * 2 ^ 31 % 18446744073709551616 = a * 2147483648 from by omega] at this
  exact this
theorem or31 (a b : Nat) (ha : a < 2147483648) (hb : b < 2147483648) (k : K β) : reckK P .or ty (U (a * 2147483648)) (U b) k = k (U (a * 2147483648 + b)) := by
  rw [reck_or _ _ (by omega) (by omega)]
  have := Nat.two_pow_add_eq_or_of_lt (i := 31) (b := b) (by omega) a
  rw [show a * 2147483648 = 2 ^ 31 * a from by omega, ← this]
end
theorem mul31 {a b : Nat} (ha : a < 2147483648) (hb : b < 2147483648) : a * b ≤ 4611686014132420609 := by
  have : a * b ≤ 2147483647 * 2147483647 := Nat.mul_le_mul (by omega) (by omega)
  omega
theorem F_ref01_Product_val (x y : Nat) (hx : x < 4611686018427387904) (hy : y < 4611686018427387904) (h : Hp) : F_ref01_Product [I x, I y] h = some (.agg [U (x * y / 4611686018427387904), U (x * y % 4611686018427387904)], h) := by
  refine F_ref01_Product_run rfl ?_ h
  obtain ⟨p1, p2⟩ := prod_nat x y
  have b1 : x % 2147483648 < 2147483648 := Nat.mod_lt _ (by decide)
  have b2 : y % 2147483648 < 2147483648 := Nat.mod_lt _ (by decide)
  have b3 : x / 2147483648 < 2147483648 := by omega
  have b4 : y / 2147483648 < 2147483648 := by omega
  have m1 := mul31 b1 b2
  have m2 := mul31 b1 b4
  have m3 := mul31 b3 b2
  have m4 := mul31 b3 b4
  rw [← p1, ← p2]
  simp only [f_ref01_Product]
  rw [show ([] : Hp).length = 0 from rfl, effK_box 2 0 (.agg [.s (.int .u64 0), .s (.int .u64 0)]) [] _ rfl rfl rfl, convK_int un_3 un_115, convK_int un_3 un_115, wrapU (by omega) (by omega), wrapU (by omega) (by omega)]
  generalize hE : x % 2147483648 * (y % 2147483648) = E at *
  generalize hB : x % 2147483648 * (y / 2147483648) = B at *
  generalize hC : x / 2147483648 * (y % 2147483648) = C at *
  generalize hA : x / 2147483648 * (y / 2147483648) = A at *
  rw [mask31 x (by omega), mask31 y (by omega), u_mul _ _ (by omega), mask31 x (by omega), shr31 y, u_mul _ _ (by omega), hE, hB, shr31 E, u_add _ _ (by omega), shr31 x, mask31 y (by omega), u_mul _ _ (by omega), hC, mask31 _ (by omega), u_add _ _ (by omega), shr31 x, shr31 y, u_mul _ _ (by omega), hA, shr31, u_add _ _ (by omega), shr31, u_add _ _ (by omega),
    mask31 _ (by omega), shl31 _ (by omega), mask31 _ (by omega), or31 _ _ (by omega) (by omega)]
  simp [buildK, fillA]
end Go.AM


namespace Go.AM
open Go.Proofs
set_option linter.unusedVariables false
set_option linter.unusedSimpArgs false
set_option linter.constructorNameAsVariable false
set_option maxRecDepth 20000
abbrev Wd (n : Nat) : AV := .agg [U (n / 4611686018427387904), U (n % 4611686018427387904)]
theorem Less_core (a b c d : Nat) (h : Hp) : F_ref01_Less [.agg [U a, U b], .agg [U c, U d]] h = some (B (decide (a < c) || (decide (a = c) && decide (b < d))), h) := by
  refine F_ref01_Less_run rfl ?_ h
  have q1 : decide ((a : Int) < (c : Int)) = decide (a < c) := dec_ul a c
  have q2 : decide ((b : Int) < (d : Int)) = decide (b < d) := dec_ul b d
  have q3 : ((a : Int) == (c : Int)) = decide (a = c) := by rw [Bool.eq_iff_iff]; simp; omega
  simp only [f_ref01_Less]
  simp [boxE]
  simp [q3]
theorem F_ref01_Less_val (m n : Nat) (h : Hp) : F_ref01_Less [Wd m, Wd n] h = some (B (decide (m < n)), h) := by
  refine (Less_core _ _ _ _ h).trans ?_
  have e : (decide (m / 4611686018427387904 < n / 4611686018427387904) || (decide (m / 4611686018427387904 = n / 4611686018427387904) && decide (m % 4611686018427387904 < n % 4611686018427387904))) = decide (m < n) := by
    rw [Bool.eq_iff_iff]; simp; omega
  rw [e]
theorem F_ref01_minus_val (m n : Nat) (hm : m < 21267647932558653966460912964485513216) (hn : n ≤ m) (h : Hp) : F_ref01_minus [Wd m, Wd n] h = some (Wd (m - n), h) := by
  refine F_ref01_minus_run rfl ?_ h
  have k1 : m / 4611686018427387904 < 4611686018427387904 := by omega
  by_cases hl : m % 4611686018427387904 < n % 4611686018427387904
  · have e1 : (m - n) / 4611686018427387904 = m / 4611686018427387904 - n / 4611686018427387904 - 1 := by omega
    have e2 : (m - n) % 4611686018427387904 = m % 4611686018427387904 + 4611686018427387904 - n % 4611686018427387904 := by omega
    have k2 : n / 4611686018427387904 + 1 ≤ m / 4611686018427387904 := by omega
    have k3 : m % 4611686018427387904 < 4611686018427387904 := by omega
    have k4 : n % 4611686018427387904 < 4611686018427387904 := by omega
    simp only [Wd]
    rw [e1, e2]
    generalize m / 4611686018427387904 = a at *
    generalize m % 4611686018427387904 = b at *
    generalize n / 4611686018427387904 = c at *
    generalize n % 4611686018427387904 = d at *
    have q1 : decide ((b : Int) < (d : Int)) = true := by simp; omega
    have w1 : IntKind.u64.wrap ((a : Int) - (c : Int)) = ((a - c : Nat) : Int) := by rw [wrapU (by omega) (by omega)]; omega
    have w2 : IntKind.u64.wrap (((a - c : Nat) : Int) - 1) = ((a - c - 1 : Nat) : Int) := by rw [wrapU (by omega) (by omega)]; omega
    have w3 : IntKind.u64.wrap ((b : Int) + 4611686018427387904) = ((b + 4611686018427387904 : Nat) : Int) := by rw [wrapU (by omega) (by omega)]; omega
    have w4 : IntKind.u64.wrap (((b + 4611686018427387904 : Nat) : Int) - (d : Int)) = ((b + 4611686018427387904 - d : Nat) : Int) := by rw [wrapU (by omega) (by omega)]; omega
    simp only [f_ref01_minus]
    simp [boxE, buildK, fillA, hl, w1]
    simp [w2, w3]
    simpa using w4
  · have e1 : (m - n) / 4611686018427387904 = m / 4611686018427387904 - n / 4611686018427387904 := by omega
    have e2 : (m - n) % 4611686018427387904 = m % 4611686018427387904 - n % 4611686018427387904 := by omega
    have k2 : n / 4611686018427387904 ≤ m / 4611686018427387904 := by omega
    have k3 : m % 4611686018427387904 < 4611686018427387904 := by omega
    simp only [Wd]
    rw [e1, e2]
    generalize m / 4611686018427387904 = a at *
    generalize m % 4611686018427387904 = b at *
    generalize n / 4611686018427387904 = c at *
    generalize n % 4611686018427387904 = d at *
    have q1 : decide ((b : Int) < (d : Int)) = false := by simp; omega
    have w1 : IntKind.u64.wrap ((a : Int) - (c : Int)) = ((a - c : Nat) : Int) := by rw [wrapU (by omega) (by omega)]; omega
    have w2 : IntKind.u64.wrap ((b : Int) - (d : Int)) = ((b - d : Nat) : Int) := by rw [wrapU (by omega) (by omega)]; omega
    simp only [f_ref01_minus]
    simp [boxE, buildK, fillA, hl, w1, w2]
end Go.AM


namespace Go.AM
open Go.Proofs
set_option linter.unusedVariables false
set_option linter.unusedSimpArgs false
set_option linter.constructorNameAsVariable false
set_option maxRecDepth 20000
theorem G_ref01_Product_val (x y : Nat) (hx : x < 4611686018427387904) (hy : y < 4611686018427387904) (h : Hp) (base : Nat) : G_ref01_Product [I x, I y] h base = some (Wd (x * y), EF []) := (closedXD_val (F_ref01_Product_val x y hx hy h) base).trans (by simp [idss, ids])
theorem G_ref01_Less_val (m n : Nat) (h : Hp) (base : Nat) : G_ref01_Less [Wd m, Wd n] h base = some (B (decide (m < n)), EF []) := (closedXD_val (F_ref01_Less_val m n h) base).trans (by simp [idss, ids])
theorem G_ref01_minus_val (m n : Nat) (hm : m < 21267647932558653966460912964485513216) (hn : n ≤ m) (h : Hp) (base : Nat) : G_ref01_minus [Wd m, Wd n] h base = some (Wd (m - n), EF []) := (closedXD_val (F_ref01_minus_val m n hm hn h) base).trans (by simp [idss, ids])
section
variable {β : Type} {P : Program} {ty : TypeId}
theorem reck_half (a : Nat) (ha : a < 9223372036854775808) (k : K β) : reckK P .quo ty (I a) (I 2) k = k (I (a / 2 : Nat)) := by
  refine reck_of (s := Op.intDiv .quo .i64 a 2) rfl rfl rfl ?_ k
  have h1 : ¬ ((2 : Int) = 0) := by omega
  have h2 : ((a : Int)).tdiv 2 = ((a / 2 : Nat) : Int) := by rw [Int.tdiv_eq_ediv_of_nonneg (by omega)]; omega
  unfold Op.intDiv
  rw [if_neg h1]
  simp only [h2]
  rw [wrap64 (by omega) (by omega)]
variable {T : Tab} {D : DTab} {N : Nat} {x0 : AV → AV → AV → Hp → Option β}
theorem of_L2 (c most p Q : Nat) (pb : Nat) (h : Hp) (hpb : h[pb]? = some (.arr 2 [[U (p / 4611686018427387904), U (p % 4611686018427387904)]] true false)) (hc : c < 4611686018427387904) (hmost : most ≤ 128849018880000)
    (hQ1 : Q ≤ most) (hQ2 : Q * c ≤ p) (hQ3 : ∀ q, q ≤ most → q * c ≤ p → q ≤ Q) : ∀ (n j q : Nat), j ≤ 62 → j < n → q ≤ Q → Q < q + 2 ^ j →
    f_ref01_Of_L2 Tryz.prog T d_ref01_Of N x0 n (I c) (I most) (.ptr pb 0 0 1) (I q) (I (2 ^ j / 2 : Nat)) h = x0 (I c) (.ptr pb 0 0 1) (I Q) h := by
  intro n
  induction n with
  | zero => intro j q _ h1; omega
  | succ n ih =>
    intro j q hj hjn hq hlt
    have e0 : f_ref01_Of_L2 Tryz.prog T d_ref01_Of N x0 (n + 1) (I c) (I most) (.ptr pb 0 0 1) (I q) (I (2 ^ j / 2 : Nat)) h = f_ref01_Of_b2 Tryz.prog T d_ref01_Of N (f_ref01_Of_L2 Tryz.prog T d_ref01_Of N x0 n) x0 (I c) (I most) (.ptr pb 0 0 1) (I q) (I (2 ^ j / 2 : Nat)) h := rfl
    rw [e0]
    cases j with
    | zero =>
      have : Q = q := by omega
      subst this
      simp [f_ref01_Of_b2]
    | succ j =>
      have e1 : 2 ^ (j + 1) / 2 = 2 ^ j := by rw [Nat.pow_succ]; omega
      have e2 : 2 ^ (j + 1) = 2 ^ j + 2 ^ j := by rw [Nat.pow_succ]; omega
      have hb : 2 ^ j ≤ 2305843009213693952 := Nat.pow_le_pow_right (n := 2) (j := 61) (by omega) (by omega)
      have hpos : 0 < 2 ^ j := Nat.two_pow_pos j
      rw [e1]
      rw [e2] at hlt
      have step := ih j
      generalize hB : 2 ^ j = bit at *
      have w1 : IntKind.i64.wrap ((q : Int) + (bit : Int)) = ((q + bit : Nat) : Int) := by rw [wrap64 (by omega) (by omega)]; omega
      have c1 : (0 : Int) < (bit : Int) := by omega
      have half := fun k => reck_half (P := Tryz.prog) (ty := 3) (β := β) bit (by omega) k
      have gP := G_ref01_Product_val (q + bit) c (by omega) hc
      have gL := G_ref01_Less_val p ((q + bit) * c)
      simp only [Wd] at gP gL
      obtain ⟨q', hqb⟩ : ∃ q', q' = q + bit := ⟨_, rfl⟩
      rw [← hqb] at w1 gP gL
      by_cases k1 : q' ≤ most
      · have k1' : (q' : Int) ≤ (most : Int) := by omega
        by_cases k2 : p < (q') * c
        · have s2 := step q (by omega) (by omega) hq (by
            rcases Nat.lt_or_ge Q (q') with h1 | h1
            · omega
            · have := Nat.mul_le_mul_right c h1; omega)
          rw [← s2]
          simp only [f_ref01_Of_b2, arithK_gtr, arithK_add, arithK_leq, w1]
          simp [c1, hpos, k1', gopD_t, hpb, effD_y, callE_F, gP, gL, k2, disjAll, disj2, wrOf, idsOf, f_ref01_Of_j4, f_ref01_Of_j3, half, w1]
        · have s2 := step (q') (by omega) (by omega) (hQ3 _ k1 (by omega)) (by omega)
          rw [← s2]
          simp only [f_ref01_Of_b2, arithK_gtr, arithK_add, arithK_leq, w1]
          simp [c1, hpos, k1', gopD_t, hpb, effD_y, callE_F, gP, gL, k2, disjAll, disj2, wrOf, idsOf, f_ref01_Of_j4, f_ref01_Of_j3, half, w1]
      · have k1' : ¬ (q' : Int) ≤ (most : Int) := by omega
        have s2 := step q (by omega) (by omega) hq (by omega)
        rw [← s2]
        simp only [f_ref01_Of_b2, arithK_gtr, arithK_add, arithK_leq, w1]
        simp [c1, hpos, k1', gopD_f, disjAll, disj2, wrOf, idsOf, f_ref01_Of_j4, f_ref01_Of_j3, half]
end
end Go.AM


namespace Go.AM
open Go.Proofs
set_option linter.unusedVariables false
set_option linter.unusedSimpArgs false
set_option linter.constructorNameAsVariable false
set_option maxRecDepth 20000
theorem F_ref01_Of_val (a b c most : Nat) (ha : a < 4611686018427387904) (hb : b < 4611686018427387904) (hc0 : 0 < c) (hc : c < 4611686018427387904) (hm : most ≤ 128849018880000) (h : Hp) :
    F_ref01_Of [I a, I b, I c, I most] h = some (if a * b / c ≤ most then .tup [I (a * b / c : Nat), I (a * b % c : Nat), B true] else .tup [I 0, I 0, B false], h) := by
  refine F_ref01_Of_run rfl ?_ h
  have hp : a * b < 21267647932558653966460912964485513216 := by
    have : a * b ≤ 4611686018427387903 * 4611686018427387903 := Nat.mul_le_mul (by omega) (by omega)
    omega
  have fP := F_ref01_Product_val a b ha hb
  have gP := G_ref01_Product_val most c (by omega) hc
  have gL := G_ref01_Less_val (most * c) (a * b)
  have hdiv : c * (a * b / c) + a * b % c = a * b := Nat.div_add_mod _ _
  have hmod : a * b % c < c := Nat.mod_lt _ hc0
  generalize a * b = p at *
  have j1 : ∀ (pb : Nat) (hh : Hp), hh[pb]? = some (.arr 2 [[U (p / 4611686018427387904), U (p % 4611686018427387904)]] true false) → p / c ≤ most →
      f_ref01_Of_j1 Tryz.prog t_ref01_Of d_ref01_Of NN (fun v g => cvt false g v) (I c) (.ptr pb 0 0 1) (I (p / c : Nat)) hh = some (.tup [I (p / c : Nat), I (p % c : Nat), B true]) := by
    intro pb hh hpb hq
    have hle : p / c * c ≤ p := Nat.div_mul_le_self p c
    have g1 := G_ref01_Product_val (p / c) c (by omega) hc
    have g2 := G_ref01_minus_val p (p / c * c) hp hle
    have e : p - p / c * c = p % c := by rw [Nat.mul_comm]; omega
    rw [e] at g2
    have e2 : p % c % 4611686018427387904 = p % c := Nat.mod_eq_of_lt (by omega)
    have w1 : IntKind.i64.wrap ((p % c : Nat) : Int) = ((p % c : Nat) : Int) := wrap64 (by omega) (by omega)
    simp only [Wd] at g1 g2
    rw [e2] at g2
    have cv := fun k => convK_int (P := Tryz.prog) (n := ((p % c : Nat) : Int)) (ka := .u64) (β := AV) un_115 un_3 k
    rw [w1] at cv
    generalize p / c = Q at *
    generalize p % c = R at *
    simp [f_ref01_Of_j1, hpb, effD_y, callE_F, g1, g2, fldK, disjAll, disj2, wrOf, idsOf, cv]
  have L := fun (pb : Nat) (hh : Hp) (hpb : hh[pb]? = some (.arr 2 [[U (p / 4611686018427387904), U (p % 4611686018427387904)]] true false)) (hq : p / c ≤ most) =>
    (of_L2 (T := t_ref01_Of) (N := NN) (x0 := fun w84_2 w84_11 w84_12 h => f_ref01_Of_j1 Tryz.prog t_ref01_Of d_ref01_Of NN (fun v g => cvt false g v) w84_2 w84_11 w84_12 h) c most p (p / c) pb hh hpb hc hm hq (Nat.div_mul_le_self p c) (fun q _ h2 => (Nat.le_div_iff_mul_le hc0).2 h2) NN 62 0 (by omega) (by have := NN_ge; omega) (Nat.zero_le _) (by rw [Nat.zero_add]; exact Nat.lt_of_le_of_lt hq (Nat.lt_of_le_of_lt hm (by decide)))).trans (j1 pb hh hpb hq)
  simp only [Wd] at fP gP gL
  have cv2 : ∀ k : Go.AM.K AV, convK Tryz.prog 3 115 (I c) k = k (U c) := fun k => by rw [convK_int un_3 un_115, wrapU (by omega) (by omega)]
  by_cases k1 : most * c < p
  · have g3 := G_ref01_minus_val p (most * c) hp (by omega)
    have g4 := G_ref01_Less_val (p - most * c) c
    simp only [Wd] at g3 g4
    rw [Nat.div_eq_of_lt hc, Nat.mod_eq_of_lt hc] at g4
    have g4 : ∀ (h : Hp) (base : Nat), G_ref01_Less [.agg [U ((p - most * c) / 4611686018427387904), U ((p - most * c) % 4611686018427387904)], .agg [.s (.int .u64 0), U c]] h base = some (B (decide (p - most * c < c)), EF []) := g4
    by_cases k2 : p - most * c < c
    · have hq : p / c ≤ most := by
        have h1 : p < (most + 1) * c := by rw [Nat.add_mul]; omega
        have := (Nat.div_lt_iff_lt_mul hc0).2 h1
        omega
      rw [if_pos hq]
      refine Eq.trans ?_ (L 0 [.arr 2 [[U (p / 4611686018427387904), U (p % 4611686018427387904)]] true false] rfl hq)
      generalize p / 4611686018427387904 = ph at *
      generalize p % 4611686018427387904 = pl at *
      simp [f_ref01_Of, fP, boxE, effD_y, callE_F, gP, gL, k1, gopD_t, g3, g4, buildK, fillA, cv2, k2, disjAll, disj2, wrOf, idsOf]
    · have hq : ¬ p / c ≤ most := by
        intro hq
        have h1 : p < (most + 1) * c := (Nat.div_lt_iff_lt_mul hc0).1 (by omega)
        rw [Nat.add_mul] at h1; omega
      rw [if_neg hq]
      generalize p / 4611686018427387904 = ph at *
      generalize p % 4611686018427387904 = pl at *
      simp [f_ref01_Of, fP, boxE, effD_y, callE_F, gP, gL, k1, gopD_t, g3, g4, buildK, fillA, cv2, k2, disjAll, disj2, wrOf, idsOf]
  · have hq : p / c ≤ most := by
      have h1 : p < (most + 1) * c := by rw [Nat.add_mul]; omega
      have := (Nat.div_lt_iff_lt_mul hc0).2 h1
      omega
    rw [if_pos hq]
    refine Eq.trans ?_ (L 0 [.arr 2 [[U (p / 4611686018427387904), U (p % 4611686018427387904)]] true false] rfl hq)
    generalize p / 4611686018427387904 = ph at *
    generalize p % 4611686018427387904 = pl at *
    simp [f_ref01_Of, fP, boxE, effD_y, callE_F, gP, gL, k1, gopD_f, disjAll, disj2, wrOf, idsOf]
end Go.AM


namespace Go.AM
open Go.Proofs
set_option linter.unusedVariables false
set_option linter.unusedSimpArgs false
set_option linter.constructorNameAsVariable false
set_option maxRecDepth 20000
theorem F_ref01_Proportion_val (a b c : Nat) (ha : a < 4611686018427387904) (hb : b < 4611686018427387904) (hc0 : 0 < c) (hc : c < 4611686018427387904) (h : Hp) :
    F_ref01_Proportion [I a, I b, I c] h = some (if a * b / c ≤ 128849018880000 then .tup [I (a * b / c : Nat), I (a * b % c : Nat)] else .tup [I 0, I 0], h) := by
  refine F_ref01_Proportion_run rfl ?_ h
  have fO : ∀ h : Hp, F_ref01_Of [I a, I b, I c, I 128849018880000] h = _ := F_ref01_Of_val a b c 128849018880000 ha hb hc0 hc (Nat.le_refl _)
  generalize a * b / c = q at *
  generalize a * b % c = r at *
  by_cases hq : q ≤ 128849018880000
  · simp [f_ref01_Proportion, fO, hq]
  · simp [f_ref01_Proportion, fO, hq]
end Go.AM


namespace Go.AM
open Go.Proofs
set_option linter.unusedVariables false
set_option linter.unusedSimpArgs false
set_option linter.constructorNameAsVariable false
set_option maxRecDepth 20000
section
variable {β : Type} {P : Program} {T : Tab} {D : DTab} {N : Nat} {K : AV → Hp → Option β}
theorem F_ref31_Class_val (a : Int) (h : Hp) : F_ref31_Class [I a] h = some (B (win a 1 9), h) := F_ref31_Class_run rfl (by simp [f_ref31_Class, win]) h
theorem F_ref31_Day_val (a : Int) (h : Hp) : F_ref31_Day [I a] h = some (B (win a 0 100000), h) := F_ref31_Day_run rfl (by simp [f_ref31_Day, win]) h
theorem F_ref31_Behind_val (a b : Allow) (h : Hp) : F_ref31_Behind [.agg (encA a), .agg (encA b)] h = some (B (ltA b a), h) := by
  refine F_ref31_Behind_run (by simp [encA]) ?_ h
  by_cases h1 : a.frm = b.frm
  · by_cases h2 : a.cls = b.cls
    · simp [f_ref31_Behind, encA, ltA, h1, h2]
    · have h2' : (a.cls == b.cls) = false := by simpa using h2
      have h2'' : ¬ b.cls = a.cls := fun e => h2 e.symm
      simp [f_ref31_Behind, encA, ltA, h1, h2, h2', h2'']
  · have h1' : (a.frm == b.frm) = false := by simpa using h1
    have h1'' : ¬ b.frm = a.frm := fun e => h1 e.symm
    simp [f_ref31_Behind, encA, ltA, h1, h1', h1'']
theorem ref31_Check_L2 (hT1 : T 51 = some F_ref31_Class) (hT2 : T 83 = some F_ref31_Behind) {x0 : Hp → Option β} {xr : AV → AV → Hp → Option β} {X : Option β} {R : Int → Int → Option β} (hx : ∀ h, x0 h = X) (hr : ∀ a b h, xr (I a) (I b) h = R a b) (l : List Allow) (b : Bool) (hl : l.length < 1000000) :
    ∀ (n : Nat) (pre post : List Allow) (h : Hp), l = pre ++ post → post.length < n →
    f_ref31_Check_L2 P T D N x0 xr n (.lst 4 b (l.map encA)) (I pre.length) h = match checkG badA ltA pre.getLast? post pre.length with | none => X | some (a, b) => R a b := by
  intro n
  induction n with
  | zero => intro pre post h _ h2; omega
  | succ n ih =>
    intro pre post h hc hn
    show f_ref31_Check_b2 P T D N (f_ref31_Check_L2 P T D N x0 xr n) x0 xr _ _ h = _
    cases post with
    | nil =>
      have : l = pre := by simpa using hc
      subst this
      simp [f_ref31_Check_b2, hx, checkG]
    | cons c post =>
      have hi : pre.length < l.length := by rw [hc]; simp
      have hci : l[pre.length]? = some c := by rw [hc]; simp
      have hlt : ((pre.length : Int) < (l.length : Int)) := by omega
      have hw : IntKind.i64.wrap ((pre.length : Int) + 1) = (((pre ++ [c]).length : Nat) : Int) := by rw [wrap64 (by omega) (by omega)]; simp
      have step := fun h => ih (pre ++ [c]) post h (by simpa using hc) (by simpa using hn)
      have hgl : (pre ++ [c]).getLast? = some c := by simp
      rw [hgl] at step
      have e1 : (((pre ++ [c]).length : Nat) : Int) = (pre.length : Int) + 1 := by simp
      have hbad : ((((((decide (c.frm < 0) || decide (100000 < c.frm)) || !win c.cls 1 9) || decide (c.mon < 1)) || decide (12 < c.mon)) || decide (c.rate < 0)) || decide (10000 < c.rate)) = badA c := by
        have q : ∀ a lo hi : Int, (decide (a < lo) || decide (hi < a)) = !win a lo hi := by
          intro a lo hi
          by_cases q1 : a < lo <;> by_cases q2 : hi < a <;> simp [win, q1, q2] <;> omega
        unfold badA
        rw [← q c.frm, ← q c.mon, ← q c.rate]
        cases decide (c.frm < 0) <;> cases decide (100000 < c.frm) <;> cases win c.cls 1 9 <;> cases decide (c.mon < 1) <;> cases decide (12 < c.mon) <;> cases decide (c.rate < 0) <;> rfl
      rw [checkG]
      have ic : ∀ k : Go.AM.K β, iaK 4 (.lst 4 b (l.map encA)) (I pre.length) k = k (.ep (encA c) 0) := fun k => iaK_at pre.length rfl hci k
      have hlen : lenK (.lst 4 b (l.map encA)) = fun k : Go.AM.K β => k (I l.length) := by funext k; simp
      have run : f_ref31_Check_b2 P T D N (f_ref31_Check_L2 P T D N x0 xr n) x0 xr (.lst 4 b (l.map encA)) (I pre.length) h = condK (B (badA c)) (xr (I pre.length) (I 2) (h ++ [.arr 4 [encA c] true false])) (arithK .gtr (I pre.length) (I 0) fun x52 =>
          grpK true x52 (h ++ [.arr 4 [encA c] true false]) (fun k53 => arithK .sub (I pre.length) (I 1) fun x55 => iaK 4 (.lst 4 b (l.map encA)) x55 fun x56 => ldK 4 true x56 (h ++ [.arr 4 [encA c] true false]) fun x57 => callK (T 83) [.agg (encA c), x57] (h ++ [.arr 4 [encA c] true false]) fun x58 h59 => notK x58 fun x60 => k53 x60 h59) fun x61 h62 =>
          condK x61 (xr (I pre.length) (I 5) h62) (arithK .add (I pre.length) (I 1) fun x63 => f_ref31_Check_L2 P T D N x0 xr n (.lst 4 b (l.map encA)) x63 h62)) := by
        rw [← hbad]
        simp only [f_ref31_Check_b2, hlen, arithK_lss, hlt, decide_true, condK_bool, if_true, ic]
        simp [hT1, F_ref31_Class_val, encA]
      rw [run]
      clear run hbad ih
      cases hb : badA c with
      | true => simp [hr]
      | false =>
        rw [condK_bool, if_neg (by simp), if_neg (by simp)]
        rw [e1] at step hw
        rcases List.eq_nil_or_concat pre with rfl | ⟨pre', q, hq⟩
        · have w1 : IntKind.i64.wrap 1 = 1 := wrap64 (by omega) (by omega)
          simpa [w1] using step (h ++ [.arr 4 [encA c] true false])
        · have hq : pre = pre' ++ [q] := by rw [hq]; simp
          have hgp : pre.getLast? = some q := by rw [hq]; simp
          have hqi : l[pre'.length]? = some q := by rw [hc, hq]; simp
          have hpl : (pre.length : Int) = (pre'.length : Int) + 1 := by rw [hq]; simp
          have iq : ∀ k : Go.AM.K β, iaK 4 (.lst 4 b (l.map encA)) (I pre'.length) k = k (.ep (encA q) 0) := fun k => iaK_at pre'.length rfl hqi k
          rw [hgp]
          clear hgp hq hc
          have hlb : (pre.length : Int) < 1000000 := by omega
          generalize (pre.length : Int) = i at *
          have h0 : (0 : Int) < i := by omega
          have w2 : IntKind.i64.wrap (i - 1) = (pre'.length : Int) := by rw [wrap64 (by omega) (by omega)]; omega
          have fb := F_ref31_Behind_val c q
          have hld : ∀ (g : Hp) (k : Go.AM.K β), ldK 4 true (.ep (encA q) 0) g k = k (.agg (encA q)) := fun g k => by simp [encA]
          by_cases ho : ltA q c = true
          · rw [ho] at fb
            simp [h0, w2, iq, hld, hT2, fb, ho, hw, step]
          · have ho' : ltA q c = false := by simpa using ho
            rw [ho'] at fb
            simp [h0, w2, iq, hld, hT2, fb, ho', hr]
theorem F_ref31_Check_val (l : List Allow) (b : Bool) (h : Hp) : F_ref31_Check [.lst 4 b (l.map encA)] h = some (.tup [I (checkA l).1, I (checkA l).2], h) := by
  refine F_ref31_Check_run rfl ?_ h
  unfold checkA
  by_cases hl : 128 < l.length
  · have hl' : (128 : Int) < (l.length : Int) := by omega
    simp [f_ref31_Check, hl, hl']
  · have hl' : ¬ (128 : Int) < (l.length : Int) := by omega
    have h1 := ref31_Check_L2 (β := AV) (P := Tryz.prog) (T := t_ref31_Check) (D := d_ref31_Check) (N := NN) (x0 := fun h => f_ref31_Check_j1 Tryz.prog t_ref31_Check d_ref31_Check NN (fun v g => cvt false g v) h) (xr := fun a b h => cvt false h (.tup [a, b])) rfl rfl
      (X := some (.tup [I (-1), I 0])) (R := fun a b => some (.tup [I a, I b])) (fun h => rfl) (fun a b h => rfl) l b (by omega) NN [] l [] rfl (by have := NN_ge; omega)
    simp [f_ref31_Check, hl, hl'] at h1 ⊢
    refine h1.trans ?_
    cases checkG badA ltA none l 0 <;> rfl
theorem F_ref31_Right_val (l : List Allow) (b : Bool) (h : Hp) : F_ref31_Right [.lst 4 b (l.map encA)] h = some (B (rightA l), h) := by
  refine F_ref31_Right_run rfl ?_ h
  simp [f_ref31_Right, F_ref31_Check_val, rightA]
  rfl
theorem month_L5 {x2 : AV → AV → Hp → Option β} {xr : AV → Hp → Option β} (day y : Int) (hy : 1900 ≤ y) (hd : 0 ≤ day ∧ day ≤ 200000) (h : Hp) : ∀ (n : Nat) (m : Int), 1 ≤ m → m ≤ 13 → (13 - m).toNat < n → Cal.dn y m ≤ day →
    f_ref31_Month_L5 P T D N x2 xr n (I (day - Cal.dn y m)) (I y) (B (Cal.leapB y)) (I m) h = if day < Cal.bef (y + 1) then xr (I (Cal.monthOf day)) h else x2 (I (day - Cal.bef (y + 1))) (I y) h := by
  intro n
  induction n with
  | zero => intro m _ _ h; omega
  | succ n ih =>
    intro m h1 h2 h3 h4
    show f_ref31_Month_b5 P T D N (f_ref31_Month_L5 P T D N x2 xr n) x2 xr _ _ _ _ h = _
    have hb := Cal.bef_mono hy
    rw [Cal.bef_0] at hb
    by_cases hm : m ≤ 12
    · have hs := Cal.pre_succ y h1 hm
      have hdn : Cal.dn y (m + 1) = Cal.dn y m + Cal.len y m := by unfold Cal.dn; omega
      have hl := Cal.len_pos y m
      have hpb := Cal.pre_bd y h1 hm
      have hbs := Cal.bef_succ y
      have hd0 : 0 ≤ Cal.dn y m := by unfold Cal.dn; omega
      have j7 : f_ref31_Month_j7 P T D N (f_ref31_Month_L5 P T D N x2 xr n) x2 xr (I (day - Cal.dn y m)) (I y) (B (Cal.leapB y)) (I m) (I (Cal.len y m)) h = if day < Cal.bef (y + 1) then xr (I (Cal.monthOf day)) h else x2 (I (day - Cal.bef (y + 1))) (I y) h := by
        by_cases hc : day - Cal.dn y m < Cal.len y m
        · have hi : Cal.Is day y m (day - Cal.dn y m + 1) := ⟨hy, ⟨h1, hm⟩, by omega, by omega⟩
          have := hi.month_eq hd.1
          have hlt := hi.lo
          rw [if_pos hlt.2, this]
          simp [f_ref31_Month_j7, hc]
        · have w1 : IntKind.i64.wrap (day - Cal.dn y m - Cal.len y m) = day - Cal.dn y (m + 1) := by rw [wrap64 (by omega) (by omega)]; omega
          have w2 : IntKind.i64.wrap (m + 1) = m + 1 := wrap64 (by omega) (by omega)
          rw [← ih (m + 1) (by omega) (by omega) (by omega) (by omega)]
          simp [f_ref31_Month_j7, hc, w1, w2]
      rw [← j7]
      rcases Cal.months h1 hm with rfl | rfl | rfl | rfl | rfl | rfl | rfl | rfl | rfl | rfl | rfl | rfl
      case inr.inl => cases hl : Cal.leapB y <;> simp [f_ref31_Month_b5, f_ref31_Month_j6, Cal.len, hl]
      all_goals simp [f_ref31_Month_b5, f_ref31_Month_j6, Cal.len]
    · have : m = 13 := by omega
      subst this
      have e : Cal.dn y 13 = Cal.bef (y + 1) := by unfold Cal.dn; rw [Cal.pre_13, Cal.bef_succ]
      rw [if_neg (by omega), ← e]
      simp [f_ref31_Month_b5]
theorem month_L2 {xr : AV → Hp → Option β} (hN : 20 ≤ N) (day : Int) (hd : 0 ≤ day ∧ day ≤ 200000) (h : Hp) : ∀ (n : Nat) (y : Int), 1900 ≤ y → Cal.bef y ≤ day → day - Cal.bef y < n →
    f_ref31_Month_L2 Tryz.prog T D N xr n (I (day - Cal.bef y)) (I y) h = xr (I (Cal.monthOf day)) h := by
  intro n
  induction n with
  | zero => intro y _ _ h; omega
  | succ n ih =>
    intro y h1 h2 h3
    show f_ref31_Month_b2 Tryz.prog T D N (f_ref31_Month_L2 Tryz.prog T D N xr n) xr _ _ h = _
    have hdn1 : Cal.dn y 1 = Cal.bef y := by unfold Cal.dn; rw [Cal.pre_1]; omega
    have hbs := Cal.bef_succ y
    have hyl := Cal.yl_pos y
    have hyb : y ≤ 3000 := by
      by_cases hy : y ≤ 3000
      · exact hy
      · have := Cal.bef_mono (show (3000 : Int) ≤ y by omega)
        have e : Cal.bef 3000 = 401767 := by decide
        omega
    have L5 := month_L5 (P := Tryz.prog) (T := T) (D := D) (N := N) (x2 := fun w32_0 w32_3 h => f_ref31_Month_j4 Tryz.prog T D N (f_ref31_Month_L2 Tryz.prog T D N xr n) xr w32_0 w32_3 h) (xr := fun w33_2 h => xr w33_2 h) day y h1 hd h N 1 (by omega) (by omega) (by omega) (by omega)
    rw [hdn1] at L5
    have r4 := fun k : Go.AM.K β => reck_remZ (P := Tryz.prog) (ty := 3) y 4 (by omega) (by omega) k
    have r100 := fun k : Go.AM.K β => reck_remZ (P := Tryz.prog) (ty := 3) y 100 (by omega) (by omega) k
    have r400 := fun k : Go.AM.K β => reck_remZ (P := Tryz.prog) (ty := 3) y 400 (by omega) (by omega) k
    have hlp : (y % 4 == 0 && (y % 100 != 0 || y % 400 == 0)) = Cal.leapB y := rfl
    have run : f_ref31_Month_b2 Tryz.prog T D N (f_ref31_Month_L2 Tryz.prog T D N xr n) xr (I (day - Cal.bef y)) (I y) h = f_ref31_Month_L5 Tryz.prog T D N (fun w32_0 w32_3 h => f_ref31_Month_j4 Tryz.prog T D N (f_ref31_Month_L2 Tryz.prog T D N xr n) xr w32_0 w32_3 h) (fun w33_2 h => xr w33_2 h) N (I (day - Cal.bef y)) (I y) (B (Cal.leapB y)) (I 1) h := by
      simp only [f_ref31_Month_b2, r4, eqK_int, Bool.false_xor]
      rw [← hlp]
      by_cases h4 : y % 4 = 0
      · simp [r100, r400, h4, bne]
      · have : (y % 4 == 0) = false := by simpa using h4
        simp [this]
    rw [run, L5]
    by_cases hc : day < Cal.bef (y + 1)
    · rw [if_pos hc]
    · rw [if_neg hc]
      have w1 : IntKind.i64.wrap (y + 1) = y + 1 := wrap64 (by omega) (by omega)
      rw [← ih (y + 1) (by omega) (by omega) (by omega)]
      simp [f_ref31_Month_j4, f_ref31_Month_j3, w1]
theorem F_ref31_Month_val (day : Int) (h0 : 0 ≤ day) (h1 : day ≤ 200000) (h : Hp) : F_ref31_Month [I day] h = some (I (Cal.monthOf day), h) := by
  refine F_ref31_Month_run rfl ?_ h
  have := month_L2 (T := t_ref31_Month) (D := d_ref31_Month) (N := NN) (xr := fun w34_2 h => cvt false h w34_2) (by have := NN_ge; omega) day ⟨h0, h1⟩ [] NN 1900 (by omega) (by rw [Cal.bef_0]; exact h0) (by have := NN_ge; rw [Cal.bef_0]; omega)
  rw [Cal.bef_0] at this
  refine Eq.trans ?_ (this.trans ?_)
  · simp [f_ref31_Month]
  · rfl
def verR (day : Int) : Int → List Allow → Int
  | acc, [] => acc
  | acc, a :: l => verR day (if a.frm ≤ day ∧ acc < a.frm then a.frm else acc) l
theorem verR_eq (day : Int) : ∀ (l : List Allow) (acc : Int), l.Pairwise (fun a b => ltA a b = true) → (∀ a ∈ l, acc ≤ a.frm) → verR day acc l = (versionL l day).getD acc
  | [], acc, _, _ => rfl
  | a :: l, acc, hs, ha => by
    obtain ⟨h1, h2⟩ := List.pairwise_cons.1 hs
    have hac := ha a (by simp)
    by_cases hd : a.frm ≤ day
    · have e1 : (if a.frm ≤ day ∧ acc < a.frm then a.frm else acc) = a.frm := by
        split
        · rfl
        · omega
      rw [verR, e1, verR_eq day l a.frm h2 (fun b hb => ltA_frm (h1 b hb))]
      have e2 : upto (a :: l) day = upto l day + 1 := by
        unfold upto; rw [List.takeWhile_cons_of_pos (p := fun a : Allow => decide (a.frm ≤ day)) (by simpa using hd)]; rfl
      unfold versionL
      rw [e2, List.take_succ_cons]
      cases hl : l.take (upto l day) with
      | nil => simp
      | cons b t =>
        rw [List.getLast?_cons_cons]
        cases hx : (b :: t).getLast? with
        | none => simp at hx
        | some y => simp [hx]
    · have hall : ∀ b ∈ l, ¬ b.frm ≤ day := fun b hb => by have := ltA_frm (h1 b hb); omega
      have key : ∀ (l : List Allow), (∀ b ∈ l, ¬ b.frm ≤ day) → verR day acc l = acc := by
        intro l
        induction l with
        | nil => intro _; rfl
        | cons b l ih => intro hb; rw [verR, if_neg (by have := hb b (by simp); omega)]; exact ih (fun c hc => hb c (by simp [hc]))
      rw [key (a :: l) (by simpa using ⟨by omega, fun b hb => by have := hall b hb; omega⟩)]
      have e2 : upto (a :: l) day = 0 := by
        unfold upto; rw [List.takeWhile_cons_of_neg (p := fun a : Allow => decide (a.frm ≤ day)) (by simpa using hd)]; rfl
      unfold versionL
      rw [e2]; rfl
theorem ref31_Version_L2 {x0 : AV → Hp → Option β} (l : List Allow) (b : Bool) (day : Int) (hl : l.length < 1000000) (h : Hp) : ∀ (n : Nat) (pre post : List Allow) (acc : Int), l = pre ++ post → post.length < n →
    f_ref31_Version_L2 P T D N x0 n (.lst 4 b (l.map encA)) (I day) (I acc) (I pre.length) h = x0 (I (verR day acc post)) h := by
  intro n
  induction n with
  | zero => intro pre post acc _ h2; omega
  | succ n ih =>
    intro pre post acc hc hn
    show f_ref31_Version_b2 P T D N (f_ref31_Version_L2 P T D N x0 n) x0 _ _ _ _ h = _
    cases post with
    | nil =>
      have : l = pre := by simpa using hc
      subst this
      simp [f_ref31_Version_b2, verR]
    | cons c post =>
      have hi : pre.length < l.length := by rw [hc]; simp
      have hci : l[pre.length]? = some c := by rw [hc]; simp
      have hlt : ((pre.length : Int) < (l.length : Int)) := by omega
      have hw : IntKind.i64.wrap ((pre.length : Int) + 1) = (((pre ++ [c]).length : Nat) : Int) := by rw [wrap64 (by omega) (by omega)]; simp
      have ic : ∀ k : Go.AM.K β, iaK 4 (.lst 4 b (l.map encA)) (I pre.length) k = k (.ep (encA c) 0) := fun k => iaK_at pre.length rfl hci k
      have hlen : lenK (.lst 4 b (l.map encA)) = fun k : Go.AM.K β => k (I l.length) := by funext k; simp
      have step := fun acc => ih (pre ++ [c]) post acc (by simpa using hc) (by simpa using hn)
      simp only [encA] at ic
      rw [verR]
      by_cases q1 : c.frm ≤ day
      · by_cases q2 : acc < c.frm
        · rw [if_pos ⟨q1, q2⟩, ← step]
          simp only [f_ref31_Version_b2, hlen, arithK_lss, hlt, decide_true, condK_bool, if_true, encA, ic]
          simp [q1, q2, f_ref31_Version_j4, f_ref31_Version_j3, hw]
        · rw [if_neg (by omega), ← step]
          simp only [f_ref31_Version_b2, hlen, arithK_lss, hlt, decide_true, condK_bool, if_true, encA, ic]
          simp [q1, q2, f_ref31_Version_j4, f_ref31_Version_j3, hw]
      · rw [if_neg (by omega), ← step]
        simp only [f_ref31_Version_b2, hlen, arithK_lss, hlt, decide_true, condK_bool, if_true, encA, ic]
        simp [q1, f_ref31_Version_j4, f_ref31_Version_j3, hw]
theorem F_ref31_Version_val (l : List Allow) (b : Bool) (day : Int) (hs : l.Pairwise (fun a b => ltA a b = true)) (hg : ∀ a ∈ l, badA a = false) (hl : l.length < 1000000) (h : Hp) : F_ref31_Version [.lst 4 b (l.map encA), I day] h = some (I ((versionL l day).getD (-1)), h) := by
  refine F_ref31_Version_run rfl ?_ h
  have := ref31_Version_L2 (P := Tryz.prog) (T := t_ref31_Version) (D := d_ref31_Version) (N := NN) (x0 := fun w18_5 h => f_ref31_Version_j1 Tryz.prog t_ref31_Version d_ref31_Version NN (fun v g => cvt false g v) w18_5 h) l b day hl [] NN [] l (-1) rfl (by have := NN_ge; omega)
  rw [verR_eq day l (-1) hs (fun a ha => by have := (badA_bd (hg a ha)).1; omega)] at this
  refine Eq.trans ?_ (this.trans ?_)
  · simp [f_ref31_Version]
  · simp [f_ref31_Version_j1]
theorem ref31_rate_L2 {x0 : Hp → Option β} {xr : AV → Hp → Option β} (l : List Allow) (b : Bool) (v cls mon : Int) (hl : l.length < 1000000) (h : Hp) : ∀ (n : Nat) (pre post : List Allow), l = pre ++ post → post.length < n →
    f_ref31_rate_L2 P T D N x0 xr n (.lst 4 b (l.map encA)) (I cls) (I v) (I mon) (I pre.length) h = match post.find? (fun a => decide (a.frm = v ∧ a.cls = cls ∧ a.mon = mon)) with | some a => xr (I a.rate) h | none => x0 h := by
  intro n
  induction n with
  | zero => intro pre post _ h2; omega
  | succ n ih =>
    intro pre post hc hn
    show f_ref31_rate_b2 P T D N (f_ref31_rate_L2 P T D N x0 xr n) x0 xr _ _ _ _ _ h = _
    cases post with
    | nil =>
      have : l = pre := by simpa using hc
      subst this
      simp [f_ref31_rate_b2]
    | cons c post =>
      have hi : pre.length < l.length := by rw [hc]; simp
      have hci : l[pre.length]? = some c := by rw [hc]; simp
      have hlt : ((pre.length : Int) < (l.length : Int)) := by omega
      have hw : IntKind.i64.wrap ((pre.length : Int) + 1) = (((pre ++ [c]).length : Nat) : Int) := by rw [wrap64 (by omega) (by omega)]; simp
      have ic : ∀ k : Go.AM.K β, iaK 4 (.lst 4 b (l.map encA)) (I pre.length) k = k (.ep (encA c) 0) := fun k => iaK_at pre.length rfl hci k
      have hlen : lenK (.lst 4 b (l.map encA)) = fun k : Go.AM.K β => k (I l.length) := by funext k; simp
      have step := ih (pre ++ [c]) post (by simpa using hc) (by simpa using hn)
      simp only [encA] at ic
      by_cases q : c.frm = v ∧ c.cls = cls ∧ c.mon = mon
      · rw [List.find?_cons_of_pos (by simpa using q)]
        obtain ⟨q1, q2, q3⟩ := q
        simp only [f_ref31_rate_b2, hlen, arithK_lss, hlt, decide_true, condK_bool, if_true, encA, ic]
        simp [q1, q2, q3]
      · rw [List.find?_cons_of_neg (by simpa using q), ← step]
        simp only [f_ref31_rate_b2, hlen, arithK_lss, hlt, decide_true, condK_bool, if_true, encA, ic]
        by_cases q1 : c.frm = v
        · by_cases q2 : c.cls = cls
          · have q3 : (c.mon == mon) = false := by simp; intro e; exact q ⟨q1, q2, e⟩
            simp [q1, q2, q3, hw]
          · have q2' : (c.cls == cls) = false := by simpa using q2
            simp [q1, q2, q2', hw]
        · have q1' : (c.frm == v) = false := by simpa using q1
          simp [q1, q1', hw]
theorem F_ref31_rate_val (l : List Allow) (b : Bool) (cls day : Int) (hs : l.Pairwise (fun a b => ltA a b = true)) (hg : ∀ a ∈ l, badA a = false) (hl : l.length < 1000000) (h0 : 0 ≤ day) (h1 : day ≤ 200000) (h : Hp) : F_ref31_rate [.lst 4 b (l.map encA), I cls, I day] h = some (I (rateOn l cls day), h) := by
  refine F_ref31_rate_run rfl ?_ h
  have fv := F_ref31_Version_val l b day hs hg hl
  have fm := F_ref31_Month_val day h0 h1
  have L := ref31_rate_L2 (P := Tryz.prog) (T := t_ref31_rate) (D := d_ref31_rate) (N := NN) (x0 := fun h => f_ref31_rate_j1 Tryz.prog t_ref31_rate d_ref31_rate NN (fun v g => cvt false g v) h) (xr := fun w30_6 h => cvt false h w30_6) l b ((versionL l day).getD (-1)) cls (Cal.monthOf day) hl [] NN [] l rfl (by have := NN_ge; omega)
  refine Eq.trans ?_ (L.trans ?_)
  · simp [f_ref31_rate, fv, fm]
  · unfold rateOn
    cases hv : versionL l day with
    | none =>
      have : l.find? (fun a => decide (a.frm = -1 ∧ a.cls = cls ∧ a.mon = Cal.monthOf day)) = none := by
        rw [List.find?_eq_none]
        intro a ha
        have := (badA_bd (hg a ha)).1
        simp; omega
      simp only [Option.getD_none, this]
      simp [f_ref31_rate_j1]
    | some v =>
      simp only [Option.getD_some]
      unfold rateAt
      cases l.find? (fun a => decide (a.frm = v ∧ a.cls = cls ∧ a.mon = Cal.monthOf day)) <;> simp [f_ref31_rate_j1]
theorem ref31_Sum_L2 (hT : T 85 = some F_ref31_rate) {x0 : AV → Hp → Option β} (l : List Allow) (b : Bool) (cls to : Int) (hs : l.Pairwise (fun a b => ltA a b = true)) (hg : ∀ a ∈ l, badA a = false) (hl : l.length < 1000000) (ht : to ≤ 100000) (h : Hp) : ∀ (n : Nat) (d acc : Int), 0 ≤ d → d ≤ to → (to - d).toNat < n → (0 ≤ acc ∧ acc ≤ 100000000000 - 1000000 * (to - d)) →
    f_ref31_Sum_L2 P T D N x0 n (.lst 4 b (l.map encA)) (I cls) (I to) (I acc) (I d) h = x0 (I (acc + sumA l cls d to)) h := by
  intro n
  induction n with
  | zero => intro d acc _ _ h; omega
  | succ n ih =>
    intro d acc h1 h2 h3 h4
    show f_ref31_Sum_b2 P T D N (f_ref31_Sum_L2 P T D N x0 n) x0 _ _ _ _ _ h = _
    by_cases hd : d < to
    · have fr := F_ref31_rate_val l b cls d hs hg hl h1 (by omega)
      have hr := rateOn_bd hg cls d
      have w1 : IntKind.i64.wrap (acc + rateOn l cls d) = acc + rateOn l cls d := wrap64 (by omega) (by omega)
      have w2 : IntKind.i64.wrap (d + 1) = d + 1 := wrap64 (by omega) (by omega)
      have e : sumA l cls d to = rateOn l cls d + sumA l cls (d + 1) to := by
        unfold sumA
        have : (to - d).toNat = (to - (d + 1)).toNat + 1 := by omega
        rw [this]; rfl
      rw [e, ← Int.add_assoc, ← ih (d + 1) (acc + rateOn l cls d) (by omega) (by omega) (by omega) (by omega)]
      simp [f_ref31_Sum_b2, hd, hT, fr, w1, w2]
    · have : d = to := by omega
      subst this
      have e : sumA l cls d d = 0 := by simp [sumA, sumN]
      simp [f_ref31_Sum_b2, e]
theorem F_ref31_Sum_val (l : List Allow) (b : Bool) (cls frm to : Int) (h : Hp) : F_ref31_Sum [.lst 4 b (l.map encA), I cls, I frm, I to] h = some (.tup [I (sumS l cls frm to).1, I (sumS l cls frm to).2], h) := by
  refine F_ref31_Sum_run rfl ?_ h
  unfold sumS
  cases hr : rightA l with
  | false => simp [f_ref31_Sum, F_ref31_Right_val, hr]
  | true =>
    obtain ⟨h1, h2, h3⟩ := rightA_ok hr
    cases c1 : win cls 1 9 <;> cases c2 : win frm 0 100000 <;> cases c3 : win to 0 100000 <;> simp [f_ref31_Sum, F_ref31_Right_val, hr, F_ref31_Class_val, F_ref31_Day_val, c1, c2, c3]
    simp only [win, Bool.and_eq_true, decide_eq_true_eq] at c2 c3
    by_cases hc : to < frm
    · simp [hc]
    · have := ref31_Sum_L2 (P := Tryz.prog) (T := t_ref31_Sum) (D := d_ref31_Sum) (N := NN) rfl (x0 := fun w10 h => f_ref31_Sum_j1 Tryz.prog t_ref31_Sum d_ref31_Sum NN (fun v g => cvt false g v) w10 h) l b cls to h3 h2 (by omega) (by omega) [] NN frm 0 (by omega) (by omega) (by have := NN_ge; omega) (by omega)
      simp [hc]
      refine this.trans ?_
      simp [f_ref31_Sum_j1]
theorem F_ref31_Allowed_val (l : List Allow) (b : Bool) (cls alc frm to : Int) (h : Hp) : F_ref31_Allowed [.lst 4 b (l.map encA), I cls, I alc, I frm, I to] h = some (.tup [I (allowedS l cls alc frm to).1, I (allowedS l cls alc frm to).2], h) := by
  refine F_ref31_Allowed_run rfl ?_ h
  have fs := F_ref31_Sum_val l b cls frm to
  unfold sumS at fs
  unfold allowedS
  cases hr : rightA l with
  | false => simp [f_ref31_Allowed, F_ref31_Right_val, hr]
  | true =>
    obtain ⟨h1, h2, h3⟩ := rightA_ok hr
    rw [hr] at fs
    have q : ∀ (a : Int) (lo hi : Int), win a lo hi = !(decide (a < lo) || decide (hi < a)) := by
      intro a lo hi
      by_cases q1 : a < lo <;> by_cases q2 : hi < a <;> simp [win, q1, q2] <;> omega
    have q4 := q alc 0 10737418240000
    cases c1 : win cls 1 9 <;> cases c2 : win frm 0 100000 <;> cases c3 : win to 0 100000 <;> rw [c1, c2, c3] at fs <;> simp [f_ref31_Allowed, F_ref31_Right_val, hr, F_ref31_Class_val, F_ref31_Day_val, c1, c2, c3]
    by_cases a1 : alc < 0
    · rw [show win alc 0 10737418240000 = false by rw [q4]; simp [a1]]
      simp [a1]
    by_cases a2 : 10737418240000 < alc
    · rw [show win alc 0 10737418240000 = false by rw [q4]; simp [a2]]
      simp [a1, a2]
    rw [show win alc 0 10737418240000 = true by rw [q4]; simp [a1, a2]]
    simp only [win, Bool.and_eq_true, decide_eq_true_eq] at c2 c3
    by_cases hc : to < frm
    · simp [hc] at fs
      simp [a1, a2, fs, hc]
    · have hb := sumA_bd h2 cls frm to (by omega)
      simp [hc] at fs
      generalize sumA l cls frm to = s at *
      obtain ⟨x, rfl⟩ := Int.eq_ofNat_of_zero_le (show 0 ≤ alc by omega)
      obtain ⟨z, rfl⟩ := Int.eq_ofNat_of_zero_le hb.1
      have hx0 : ¬ ((x : Int) < 0) := by omega
      by_cases hs : 1000000 ≤ (z : Int)
      · have hmin : min ((x : Int) * (z : Int) / 1000000) (x : Int) = x := by
          have : (x : Int) * 1000000 ≤ (x : Int) * (z : Int) := Int.mul_le_mul_of_nonneg_left hs (by omega)
          have : (x : Int) ≤ (x : Int) * (z : Int) / 1000000 := by omega
          omega
        rw [hmin]
        clear hmin
        clear q4 q h1 h2 h3 c1 c2 c3 hb
        generalize hxi : (x : Int) = xi at *
        generalize hzi : (z : Int) = zi at *
        clear hxi hzi
        have g1 : decide (1000000 ≤ zi) = true := by simpa using hs
        have g2 : ¬ (xi < 0 ∨ 10737418240000 < xi) := by omega
        simp only [if_neg hc]
        clear hs a2 hx0 hc
        simp [g1, fs]
        omega
      · have fp := F_ref01_Proportion_val x z 1000000 (by omega) (by omega) (by decide) (by decide)
        have hle : x * z ≤ x * 1000000 := Nat.mul_le_mul_left _ (by omega)
        have hq : x * z / 1000000 ≤ x := by omega
        rw [if_pos (by omega)] at fp
        have hmin : min ((x : Int) * (z : Int) / 1000000) (x : Int) = ((x * z / 1000000 : Nat) : Int) := by
          have : ((x : Int) * (z : Int) / 1000000) = ((x * z / 1000000 : Nat) : Int) := by rw [Int.natCast_ediv, Int.natCast_mul]; rfl
          rw [this]; omega
        rw [hmin]
        clear hmin
        have fp' : ∀ h : Hp, F_ref01_Proportion [I (x : Int), I (z : Int), I 1000000] h = some (.tup [I ((x * z / 1000000 : Nat) : Int), I ((x * z % 1000000 : Nat) : Int)], h) := fun h => fp h
        clear fp hle hq
        generalize ((x * z / 1000000 : Nat) : Int) = p at *
        generalize ((x * z % 1000000 : Nat) : Int) = r at *
        generalize hxi : (x : Int) = xi at *
        generalize hzi : (z : Int) = zi at *
        have g1 : decide (1000000 ≤ zi) = false := by simpa using hs
        have g2 : ¬ (xi < 0 ∨ 10737418240000 < xi) := by omega
        simp only [if_neg hc]
        clear hs a2 hx0 hc hxi hzi q4 q h1 h2 h3 c1 c2 c3 hb
        simp [g1, fs, fp']
        omega
theorem F_ref31_Few_val (l : List Allow) (b : Bool) (h : Hp) : F_ref31_Few [.lst 4 b (l.map encA)] h = some (B (decide (l.length ≤ 20) || decide (l.length = 129)), h) := by
  refine F_ref31_Few_run rfl ?_ h
  by_cases h1 : l.length ≤ 20
  · have h1' : (l.length : Int) ≤ 20 := by omega
    simp [f_ref31_Few, h1, h1']
  · have h1' : ¬ (l.length : Int) ≤ 20 := by omega
    by_cases h2 : l.length = 129
    · simp [f_ref31_Few, h1, h1', h2]
    · have h2' : ((l.length : Int) == 129) = false := by simp; omega
      simp [f_ref31_Few, h1, h1', h2, h2']
end
end Go.AM


namespace Go.AM
open Go.Proofs
set_option linter.unusedVariables false
set_option linter.unusedSimpArgs false
set_option linter.constructorNameAsVariable false
set_option maxRecDepth 20000
theorem F_journey_in_val (a b c : Int) (h : Hp) : F_journey_in [I a, I b, I c] h = some (B (win a b c), h) := F_journey_in_run rfl (by simp [f_journey_in, win]) h
theorem F_journey_node_val (a : Int) (h : Hp) : F_journey_node [I a] h = some (B (win a 1 99), h) := F_journey_node_run rfl (by simp [f_journey_node, F_journey_in_val]) h
theorem set_app {h : Hp} {g : List AObj} {id : Nat} {x o : AObj} (hid : h[id]? = some x) : (h ++ g).set id o = h.set id o ++ g := by
  rw [List.set_append_left _ _ (List.getElem?_eq_some_iff.1 hid).1]
theorem wr_7 (id : Nat) (j : Jny) (x : Leg) : Writes F_journey_table_7 id (.agg (encL x)) 9 (encJ j) (encJ { j with halt := true }) := by
  refine ⟨by simp [plain, encJ], fun H hid => ⟨[.arr 5 [encL x] true false], ?_⟩⟩
  rw [F_journey_table_7_raw]
  have hid' := get_app (g := [.arr 5 [encL x] true false]) hid
  have hs := fun o => set_app (g := [.arr 5 [encL x] true false]) (o := o) hid
  have hg : ∀ o : AObj, (H.set id o ++ [.arr 5 [encL x] true false])[id]? = some o := fun o => by
    rw [List.getElem?_append_left (by simpa using (List.getElem?_eq_some_iff.1 hid).1), List.getElem?_set_self (List.getElem?_eq_some_iff.1 hid).1]
  have hss : ∀ o p : AObj, (H.set id o ++ [AObj.arr 5 [encL x] true false]).set id p = H.set id p ++ [AObj.arr 5 [encL x] true false] := fun o p => by
    rw [List.set_append_left _ _ (by simpa using (List.getElem?_eq_some_iff.1 hid).1), List.set_set]
  simp only [encL, encJ] at hid' hs hg hss ⊢
  simp [f_journey_table_7, boxE, nilK, hid', stE, ap, hs]
theorem wr_10 (id : Nat) (j : Jny) (x : Leg) : Writes F_journey_table_10 id (.agg (encL x)) 9 (encJ j) (encJ { j with halt := false }) := by
  refine ⟨by simp [plain, encJ], fun H hid => ⟨[.arr 5 [encL x] true false], ?_⟩⟩
  rw [F_journey_table_10_raw]
  have hid' := get_app (g := [.arr 5 [encL x] true false]) hid
  have hs := fun o => set_app (g := [.arr 5 [encL x] true false]) (o := o) hid
  have hg : ∀ o : AObj, (H.set id o ++ [.arr 5 [encL x] true false])[id]? = some o := fun o => by
    rw [List.getElem?_append_left (by simpa using (List.getElem?_eq_some_iff.1 hid).1), List.getElem?_set_self (List.getElem?_eq_some_iff.1 hid).1]
  have hss : ∀ o p : AObj, (H.set id o ++ [AObj.arr 5 [encL x] true false]).set id p = H.set id p ++ [AObj.arr 5 [encL x] true false] := fun o p => by
    rw [List.set_append_left _ _ (by simpa using (List.getElem?_eq_some_iff.1 hid).1), List.set_set]
  simp only [encL, encJ] at hid' hs hg hss ⊢
  simp [f_journey_table_10, boxE, nilK, hid', stE, ap, hs]
theorem wr_12 (id : Nat) (j : Jny) (x : Leg) : Writes F_journey_table_12 id (.agg (encL x)) 9 (encJ j) (encJ { j with to := x.to }) := by
  refine ⟨by simp [plain, encJ], fun H hid => ⟨[.arr 5 [encL x] true false], ?_⟩⟩
  rw [F_journey_table_12_raw]
  have hid' := get_app (g := [.arr 5 [encL x] true false]) hid
  have hs := fun o => set_app (g := [.arr 5 [encL x] true false]) (o := o) hid
  have hg : ∀ o : AObj, (H.set id o ++ [.arr 5 [encL x] true false])[id]? = some o := fun o => by
    rw [List.getElem?_append_left (by simpa using (List.getElem?_eq_some_iff.1 hid).1), List.getElem?_set_self (List.getElem?_eq_some_iff.1 hid).1]
  have hss : ∀ o p : AObj, (H.set id o ++ [AObj.arr 5 [encL x] true false]).set id p = H.set id p ++ [AObj.arr 5 [encL x] true false] := fun o p => by
    rw [List.set_append_left _ _ (by simpa using (List.getElem?_eq_some_iff.1 hid).1), List.set_set]
  simp only [encL, encJ] at hid' hs hg hss ⊢
  simp [f_journey_table_12, boxE, nilK, hid', stE, ap, hs]
theorem wr_5 (id : Nat) (j : Jny) (x : Leg) : Writes F_journey_table_5 id (.agg (encL x)) 9 (encJ j) (encJ ⟨x.alc, 0, 0, 0, x.alc, x.place, x.to, false, false⟩) := by
  refine ⟨by simp [plain, encJ], fun H hid => ⟨[.arr 5 [encL x] true false], ?_⟩⟩
  rw [F_journey_table_5_raw]
  have hid' := get_app (g := [.arr 5 [encL x] true false]) hid
  have hs := fun o => set_app (g := [.arr 5 [encL x] true false]) (o := o) hid
  have hg : ∀ o : AObj, (H.set id o ++ [.arr 5 [encL x] true false])[id]? = some o := fun o => by
    rw [List.getElem?_append_left (by simpa using (List.getElem?_eq_some_iff.1 hid).1), List.getElem?_set_self (List.getElem?_eq_some_iff.1 hid).1]
  have hss : ∀ o p : AObj, (H.set id o ++ [AObj.arr 5 [encL x] true false]).set id p = H.set id p ++ [AObj.arr 5 [encL x] true false] := fun o p => by
    rw [List.set_append_left _ _ (by simpa using (List.getElem?_eq_some_iff.1 hid).1), List.set_set]
  simp only [encL, encJ] at hid' hs hg hss ⊢
  simp [f_journey_table_5, boxE, nilK, hid', stE, ap, hs, buildK, fillA]
theorem wr_13 (id : Nat) (j : Jny) (x : Leg) (w1 : IntKind.i64.wrap (j.spl + x.alc) = j.spl + x.alc) (w2 : IntKind.i64.wrap (j.tra - x.alc) = j.tra - x.alc) : Writes F_journey_table_13 id (.agg (encL x)) 9 (encJ j) (encJ { j with spl := j.spl + x.alc, tra := j.tra - x.alc }) := by
  refine ⟨by simp [plain, encJ], fun H hid => ⟨[.arr 5 [encL x] true false], ?_⟩⟩
  rw [F_journey_table_13_raw]
  have hl : id ≠ H.length := by have := (List.getElem?_eq_some_iff.1 hid).1; omega
  have hid' := get_app (g := [.arr 5 [encL x] true false]) hid
  have hs := fun o => set_app (g := [.arr 5 [encL x] true false]) (o := o) hid
  have hg : ∀ o : AObj, (H.set id o ++ [.arr 5 [encL x] true false])[id]? = some o := fun o => by
    rw [List.getElem?_append_left (by simpa using (List.getElem?_eq_some_iff.1 hid).1), List.getElem?_set_self (List.getElem?_eq_some_iff.1 hid).1]
  have hss : ∀ o p : AObj, (H.set id o ++ [AObj.arr 5 [encL x] true false]).set id p = H.set id p ++ [AObj.arr 5 [encL x] true false] := fun o p => by
    rw [List.set_append_left _ _ (by simpa using (List.getElem?_eq_some_iff.1 hid).1), List.set_set]
  simp only [encL, encJ] at hid' hs hg hss ⊢
  simp [f_journey_table_13, boxE, nilK, hid', stE, ap, hs, w1, w2, hl, hg, hss, disjAll, disj2, wrOf, idsOf]
theorem wr_14 (id : Nat) (j : Jny) (x : Leg) (w1 : IntKind.i64.wrap (j.lost + x.alc) = j.lost + x.alc) (w2 : IntKind.i64.wrap (j.tra - x.alc) = j.tra - x.alc) : Writes F_journey_table_14 id (.agg (encL x)) 9 (encJ j) (encJ { j with lost := j.lost + x.alc, tra := j.tra - x.alc }) := by
  refine ⟨by simp [plain, encJ], fun H hid => ⟨[.arr 5 [encL x] true false], ?_⟩⟩
  rw [F_journey_table_14_raw]
  have hl : id ≠ H.length := by have := (List.getElem?_eq_some_iff.1 hid).1; omega
  have hid' := get_app (g := [.arr 5 [encL x] true false]) hid
  have hs := fun o => set_app (g := [.arr 5 [encL x] true false]) (o := o) hid
  have hg : ∀ o : AObj, (H.set id o ++ [.arr 5 [encL x] true false])[id]? = some o := fun o => by
    rw [List.getElem?_append_left (by simpa using (List.getElem?_eq_some_iff.1 hid).1), List.getElem?_set_self (List.getElem?_eq_some_iff.1 hid).1]
  have hss : ∀ o p : AObj, (H.set id o ++ [AObj.arr 5 [encL x] true false]).set id p = H.set id p ++ [AObj.arr 5 [encL x] true false] := fun o p => by
    rw [List.set_append_left _ _ (by simpa using (List.getElem?_eq_some_iff.1 hid).1), List.set_set]
  simp only [encL, encJ] at hid' hs hg hss ⊢
  simp [f_journey_table_14, boxE, nilK, hid', stE, ap, hs, w1, w2, hl, hg, hss, disjAll, disj2, wrOf, idsOf]
theorem wr_16 (id : Nat) (j : Jny) (x : Leg) (w1 : IntKind.i64.wrap (j.lost + j.tra) = j.lost + j.tra) (w2 : IntKind.i64.wrap (j.lost + j.tra - x.alc) = j.lost + j.tra - x.alc) : Writes F_journey_table_16 id (.agg (encL x)) 9 (encJ j) (encJ { j with arr := x.alc, lost := j.lost + j.tra - x.alc, tra := 0, endd := true }) := by
  refine ⟨by simp [plain, encJ], fun H hid => ⟨[.arr 5 [encL x] true false], ?_⟩⟩
  rw [F_journey_table_16_raw]
  have hl : id ≠ H.length := by have := (List.getElem?_eq_some_iff.1 hid).1; omega
  have hid' := get_app (g := [.arr 5 [encL x] true false]) hid
  have hs := fun o => set_app (g := [.arr 5 [encL x] true false]) (o := o) hid
  have hg : ∀ o : AObj, (H.set id o ++ [.arr 5 [encL x] true false])[id]? = some o := fun o => by
    rw [List.getElem?_append_left (by simpa using (List.getElem?_eq_some_iff.1 hid).1), List.getElem?_set_self (List.getElem?_eq_some_iff.1 hid).1]
  have hss : ∀ o p : AObj, (H.set id o ++ [AObj.arr 5 [encL x] true false]).set id p = H.set id p ++ [AObj.arr 5 [encL x] true false] := fun o p => by
    rw [List.set_append_left _ _ (by simpa using (List.getElem?_eq_some_iff.1 hid).1), List.set_set]
  simp only [encL, encJ] at hid' hs hg hss ⊢
  simp [f_journey_table_16, boxE, nilK, hid', stE, ap, hs, w1, w2, hl, hg, hss, disjAll, disj2, wrOf, idsOf]
def kindsT : List AV := [.s .nilFunc, .s .nilFunc, .s .nilFunc,
  .fn 57 [], .fn 54 [], .fn 59 [], .fn 60 [], .fn 55 [], .fn 61 [],
  .fn 62 [], .fn 63 [], .fn 64 [], .fn 65 [], .fn 54 [], .fn 66 [],
  .fn 56 [], .fn 54 [], .fn 67 [], .fn 56 [], .fn 54 [], .fn 68 [],
  .fn 69 [], .fn 55 [], .fn 70 []]
theorem table_run {β : Type} (K : AV → Hp → Option β) (h : Hp) : f_journey_table Tryz.prog t_journey_table d_journey_table NN K h = K (.agg kindsT) (h ++ [.arr 24 [kindsT] true false]) := by
  have hl : (h ++ [AObj.arr 24 [kindsT] true false])[h.length]? = some (.arr 24 [kindsT] true false) := by simp
  simp [f_journey_table, boxE, buildK, fillA, stE, ap, kindsT]
theorem F_journey_table_val (h : Hp) : F_journey_table [] h = some (.agg kindsT, h) := F_journey_table_q (g := [.arr 24 [kindsT] true false]) (table_run _ h) rfl
theorem G_journey_table_val (h : Hp) (base : Nat) : G_journey_table [] h base = some (.agg kindsT, EF []) := roD_val ⟨rfl, fun H _ => ⟨[], by simpa using F_journey_table_val H⟩⟩ base
theorem F_t1_val (j : Jny) (h : Hp) : F_journey_table_1 [.agg (encJ j)] h = some (B false, h) := F_journey_table_1_run rfl (by simp [f_journey_table_1, boxE, encJ]) h
theorem F_t2_val (j : Jny) (h : Hp) : F_journey_table_2 [.agg (encJ j)] h = some (B j.halt, h) := F_journey_table_2_run rfl (by simp [f_journey_table_2, boxE, encJ]) h
theorem F_t9_val (j : Jny) (h : Hp) : F_journey_table_9 [.agg (encJ j)] h = some (B (!j.halt), h) := F_journey_table_9_run rfl (by simp [f_journey_table_9, boxE, encJ]) h
theorem F_t3_val (x : Leg) (h : Hp) : F_journey_table_3 [.agg (encL x)] h = some (B (partL x), h) := by
  refine F_journey_table_3_run rfl ?_ h
  unfold partL
  cases c1 : (x.place == 0) <;> cases c2 : (x.to == 0) <;> simp [f_journey_table_3, boxE, encL, F_journey_in_val, c1, c2]
theorem F_t4_val (x : Leg) (h : Hp) : F_journey_table_4 [.agg (encL x)] h = some (B (win x.place 1 99 && win x.to 1 99 && x.place != x.to && win x.alc 1 10737418240000), h) := by
  refine F_journey_table_4_run rfl ?_ h
  have c4 : (!decide (x.place = x.to)) = (x.place != x.to) := by by_cases e : x.place = x.to <;> simp [e]
  cases c1 : win x.place 1 99 <;> cases c2 : win x.to 1 99 <;> cases c3 : (x.place == x.to) <;> simp [f_journey_table_4, boxE, encL, F_journey_in_val, F_journey_node_val, c1, c2, c3, bne]
theorem F_t6_val (x : Leg) (h : Hp) : F_journey_table_6 [.agg (encL x)] h = some (B (win x.place 1 99 && x.to == 0 && x.alc == 0), h) := by
  refine F_journey_table_6_run rfl ?_ h
  cases c1 : win x.place 1 99 <;> cases c2 : (x.to == 0) <;> simp [f_journey_table_6, boxE, encL, F_journey_in_val, F_journey_node_val, c1, c2]
theorem F_t8_val (x : Leg) (h : Hp) : F_journey_table_8 [.agg (encL x)] h = some (B (x.place == 0 && x.to == 0 && x.alc == 0), h) := by
  refine F_journey_table_8_run rfl ?_ h
  cases c1 : (x.place == 0) <;> cases c2 : (x.to == 0) <;> simp [f_journey_table_8, boxE, encL, c1, c2]
theorem F_t11_val (x : Leg) (h : Hp) : F_journey_table_11 [.agg (encL x)] h = some (B (x.place == 0 && win x.to 1 99 && x.alc == 0), h) := by
  refine F_journey_table_11_run rfl ?_ h
  cases c1 : (x.place == 0) <;> cases c2 : win x.to 1 99 <;> simp [f_journey_table_11, boxE, encL, F_journey_node_val, c1, c2]
theorem F_t15_val (x : Leg) (h : Hp) : F_journey_table_15 [.agg (encL x)] h = some (B (win x.place 1 99 && x.to == 0 && win x.alc 0 10737418240000), h) := by
  refine F_journey_table_15_run rfl ?_ h
  cases c1 : win x.place 1 99 <;> cases c2 : (x.to == 0) <;> simp [f_journey_table_15, boxE, encL, F_journey_in_val, F_journey_node_val, c1, c2]
end Go.AM


namespace Go.AM
open Go.Proofs
set_option linter.unusedVariables false
set_option linter.unusedSimpArgs false
set_option linter.constructorNameAsVariable false
set_option maxRecDepth 20000
theorem eqK_bool {β : Type} (neq a b : Bool) (h : Hp) (k : Go.AM.K β) : eqK Tryz.prog neq 4 (B a) (B b) h k = k (B (xor neq (a == b))) := by
  have : Tryz.prog.underlying 4 = some .bool := by kernel_rfl
  simp [eqK, this]
def formF (k : Int) : Nat := if k = 1 then 57 else if k = 2 then 60 else if k = 3 then 62 else if k = 4 then 65 else if k = 5 then 56 else if k = 6 then 56 else 69
def refF (k : Int) : Nat := if k = 1 then 54 else if k = 2 then 55 else if k = 3 then 63 else if k = 4 then 54 else if k = 5 then 54 else if k = 6 then 54 else 55
def actF (k : Int) : Nat := if k = 1 then 59 else if k = 2 then 61 else if k = 3 then 64 else if k = 4 then 66 else if k = 5 then 67 else if k = 6 then 68 else 70
theorem kinds7 {k : Int} (h : 1 ≤ k ∧ k ≤ 7) : k = 1 ∨ k = 2 ∨ k = 3 ∨ k = 4 ∨ k = 5 ∨ k = 6 ∨ k = 7 := by omega
theorem ixk {β : Type} {k : Int} (h : 1 ≤ k ∧ k ≤ 7) (K : AV → Option β) : ixA 3 8 true (.agg kindsT) (I k) K = K (.agg [.fn (formF k) [], .fn (refF k) [], .fn (actF k) []]) := by
  rcases kinds7 h with e | e | e | e | e | e | e <;> subst e <;> rfl
theorem gd {shp shr : List Sh} {F : Fun} {args : List AV} {v : AV} {h : Hp} (hk : closedX shp shr F args h = some (v, h)) (hi : idss args = []) (base : Nat) : closedXD shp shr F args h base = some (v, EF []) := (closedXD_val hk base).trans (by rw [hi]; rfl)
theorem idsL (x : Leg) : idss [.agg (encL x)] = [] := by simp [idss, ids, encL]
theorem idsJ (j : Jny) : idss [.agg (encJ j)] = [] := by simp [idss, ids, encJ]
theorem gform {k : Int} (hk : 1 ≤ k ∧ k ≤ 7) (x : Leg) (hx : x.kind = k) (h : Hp) (base : Nat) : callVE d_journey_fault (.fn (formF k) []) [.agg (encL x)] h base = some (B (formL x), EF []) := by
  rcases kinds7 hk with e | e | e | e | e | e | e <;> subst e <;> rw [callVE_fn, List.append_nil] <;> unfold formL <;> simp only [hx]
  · exact gd (F_t4_val x h) (idsL x) base
  · exact gd (F_t6_val x h) (idsL x) base
  · exact gd (F_t8_val x h) (idsL x) base
  · exact gd (F_t11_val x h) (idsL x) base
  · exact gd (F_t3_val x h) (idsL x) base
  · exact gd (F_t3_val x h) (idsL x) base
  · exact gd (F_t15_val x h) (idsL x) base
theorem gref {k : Int} (hk : 1 ≤ k ∧ k ≤ 7) (j : Jny) (h : Hp) (base : Nat) : callVE d_journey_fault (.fn (refF k) []) [.agg (encJ j)] h base = some (B (refL j k), EF []) := by
  rcases kinds7 hk with e | e | e | e | e | e | e <;> subst e <;> rw [callVE_fn, List.append_nil]
  · exact gd (F_t1_val j h) (idsJ j) base
  · exact gd (F_t2_val j h) (idsJ j) base
  · exact gd (F_t9_val j h) (idsJ j) base
  · exact gd (F_t1_val j h) (idsJ j) base
  · exact gd (F_t1_val j h) (idsJ j) base
  · exact gd (F_t1_val j h) (idsJ j) base
  · exact gd (F_t2_val j h) (idsJ j) base
theorem G_journey_in_val (a b c : Int) (h : Hp) (base : Nat) : G_journey_in [I a, I b, I c] h base = some (B (win a b c), EF []) := gd (F_journey_in_val a b c h) (by simp [idss, ids]) base
set_option maxHeartbeats 4000000 in
theorem F_journey_fault_val (j : Jny) (begun : Bool) (last : Int) (x : Leg) (h : Hp) : F_journey_fault [.agg (encJ j), B begun, I last, .agg (encL x)] h = some (I (faultL j begun last x), h) := by
  refine F_journey_fault_run (by simp [encJ, encL]) ?_ h
  unfold faultL
  have gt := G_journey_table_val
  cases c1 : win x.day 0 100000
  · simp [f_journey_fault, boxE, encJ, encL, G_journey_in_val, c1, disjAll, disj2, wrOf, ap, idsOf, EF]
  cases c2 : win x.kind 1 7
  · simp [f_journey_fault, boxE, encJ, encL, G_journey_in_val, c1, c2, disjAll, disj2, wrOf, ap, idsOf, EF]
  have hk : 1 ≤ x.kind ∧ x.kind ≤ 7 := by simpa [win] using c2
  have i1 := fun K : AV → Option AV => ixk hk K
  have i2 := gform hk x rfl
  have i3 := gref hk j
  have e1 : (x.kind == 1) = decide (x.kind = 1) := by by_cases q : x.kind = 1 <;> simp [q]
  have e2 : (begun == decide (x.kind = 1)) = (begun == (x.kind == 1)) := by rw [e1]
  rw [e2]
  have i0 : ∀ (a b c : AV) (k : Go.AM.K AV), fldK 1 false 0 (.agg [a, b, c]) k = k a := fun a b c k => rfl
  have i5 : ∀ (a b c : AV) (k : Go.AM.K AV), fldK 1 false 1 (.agg [a, b, c]) k = k b := fun a b c k => rfl
  simp only [callVE_fn, List.append_nil] at i2 i3
  generalize formF x.kind = ff at *
  generalize refF x.kind = fr at *
  generalize actF x.kind = fa at *
  simp only [encL, encJ] at i2 i3
  cases c3 : formL x with
  | false =>
    rw [c3] at i2
    simp [f_journey_fault, boxE, encJ, encL, G_journey_in_val, eqK_bool, c1, c2, gt, i1, i0, i5, i2, disjAll, disj2, wrOf, ap, idsOf, EF]
  | true =>
    rw [c3] at i2
    by_cases c4 : x.day < last
    · simp [f_journey_fault, boxE, encJ, encL, G_journey_in_val, eqK_bool, c1, c2, gt, i1, i0, i5, i2, c4, disjAll, disj2, wrOf, ap, idsOf, EF]
    cases c5 : (begun == (x.kind == 1)) with
    | true =>
      simp [f_journey_fault, boxE, encJ, encL, G_journey_in_val, eqK_bool, c1, c2, gt, i1, i0, i5, i2, c4, c5, disjAll, disj2, wrOf, ap, idsOf, EF]
    | false =>
      cases c6 : j.endd with
      | true =>
        simp [f_journey_fault, boxE, encJ, encL, G_journey_in_val, eqK_bool, c1, c2, gt, i1, i0, i5, i2, c4, c5, c6, disjAll, disj2, wrOf, ap, idsOf, EF]
      | false =>
        cases c7 : refL j x.kind with
        | true =>
          rw [c7] at i3
          rw [c6] at i3
          simp [f_journey_fault, boxE, encJ, encL, G_journey_in_val, eqK_bool, c1, c2, gt, i1, i0, i5, i2, i3, c4, c5, c6, disjAll, disj2, wrOf, ap, idsOf, EF]
        | false =>
          rw [c7] at i3
          rw [c6] at i3
          have q4 : ∀ a b : Int, (a == b) = decide (a = b) := fun a b => by by_cases q : a = b <;> simp [q]
          have run : f_journey_fault Tryz.prog t_journey_fault d_journey_fault NN (fun v g => cvt false g v) (.agg (encJ j)) (B begun) (I last) (.agg (encL x)) [] = some (I (if (x.kind = 4 ∧ x.to = j.frm) ∨ (x.kind = 7 ∧ x.place ≠ j.to) then 10 else if 5 ≤ x.kind ∧ j.tra < x.alc then 17 else 0)) := by
            by_cases d1 : x.kind = 4
            · have d1' : (x.kind == 4) = true := by simpa using d1
              have d2 : ¬ x.kind = 7 := by omega
              have d2' : (x.kind == 7) = false := by simpa using d2
              have d5 : ¬ 5 ≤ x.kind := by omega
              cases d3 : (x.to == j.frm)
              · have d3' : ¬ x.to = j.frm := by simpa using d3
                rw [if_neg (by simp [d2, d3']), if_neg (by simp [d5])]
                simp [f_journey_fault, boxE, encJ, encL, G_journey_in_val, eqK_bool, c1, c2, gt, i1, i0, i5, i2, i3, c4, c5, c6, d1', d2', d3, d5, disjAll, disj2, wrOf, ap, idsOf, EF]
              · have d3' : x.to = j.frm := by simpa using d3
                rw [if_pos (.inl ⟨d1, d3'⟩)]
                simp [f_journey_fault, boxE, encJ, encL, G_journey_in_val, eqK_bool, c1, c2, gt, i1, i0, i5, i2, i3, c4, c5, c6, d1', d2', d3, d5, disjAll, disj2, wrOf, ap, idsOf, EF]
            · have d1' : (x.kind == 4) = false := by simpa using d1
              by_cases d2 : x.kind = 7
              · have d2' : (x.kind == 7) = true := by simpa using d2
                have d5 : 5 ≤ x.kind := by omega
                cases d4 : (x.place == j.to)
                · have d4' : ¬ x.place = j.to := by simpa using d4
                  rw [if_pos (.inr ⟨d2, d4'⟩)]
                  simp [f_journey_fault, boxE, encJ, encL, G_journey_in_val, eqK_bool, c1, c2, gt, i1, i0, i5, i2, i3, c4, c5, c6, d1', d2', d4, d5, disjAll, disj2, wrOf, ap, idsOf, EF]
                · have d4' : x.place = j.to := by simpa using d4
                  rw [if_neg (by simp [d1, d4'])]
                  by_cases d6 : j.tra < x.alc
                  · rw [if_pos ⟨d5, d6⟩]
                    simp [f_journey_fault, boxE, encJ, encL, G_journey_in_val, eqK_bool, c1, c2, gt, i1, i0, i5, i2, i3, c4, c5, c6, d1', d2', d4, d5, d6, disjAll, disj2, wrOf, ap, idsOf, EF]
                  · rw [if_neg (by simp [d6])]
                    simp [f_journey_fault, boxE, encJ, encL, G_journey_in_val, eqK_bool, c1, c2, gt, i1, i0, i5, i2, i3, c4, c5, c6, d1', d2', d4, d5, d6, disjAll, disj2, wrOf, ap, idsOf, EF]
              · have d2' : (x.kind == 7) = false := by simpa using d2
                rw [if_neg (by simp [d1, d2])]
                by_cases d5 : 5 ≤ x.kind
                · by_cases d6 : j.tra < x.alc
                  · rw [if_pos ⟨d5, d6⟩]
                    simp [f_journey_fault, boxE, encJ, encL, G_journey_in_val, eqK_bool, c1, c2, gt, i1, i0, i5, i2, i3, c4, c5, c6, d1', d2', d5, d6, disjAll, disj2, wrOf, ap, idsOf, EF]
                  · rw [if_neg (by simp [d6])]
                    simp [f_journey_fault, boxE, encJ, encL, G_journey_in_val, eqK_bool, c1, c2, gt, i1, i0, i5, i2, i3, c4, c5, c6, d1', d2', d5, d6, disjAll, disj2, wrOf, ap, idsOf, EF]
                · rw [if_neg (by simp [d5])]
                  simp [f_journey_fault, boxE, encJ, encL, G_journey_in_val, eqK_bool, c1, c2, gt, i1, i0, i5, i2, i3, c4, c5, c6, d1', d2', d5, disjAll, disj2, wrOf, ap, idsOf, EF]
          rw [run]
          simp [c4]
end Go.AM


namespace Go.AM
open Go.Proofs
set_option linter.unusedVariables false
set_option linter.unusedSimpArgs false
set_option linter.constructorNameAsVariable false
set_option maxRecDepth 20000
theorem gact {j : Jny} {begun : Bool} {last : Int} {x : Leg} (hj : InvJ j) (hf : faultL j begun last x = 0) {h : Hp} {id : Nat} (hid : h[id]? = some (.arr 9 [encJ j] true false)) (base : Nat) :
    callVE d_journey_Run (.fn (actF x.kind) []) [.ptr id 0 0 1, .agg (encL x)] h base = some (.tup [], ⟨[(id, .arr 9 [encJ (actL j x)] true false)], [], [id]⟩) := by
  obtain ⟨-, hk, hfo, -, -, -, -, -, -, hs⟩ := faultL_0 hf
  have hb := formL_bd hk hfo
  obtain ⟨s1, s2, s3, s4, s5, s6, s7, s8⟩ := hj
  unfold actL
  rcases kinds7 hk with e | e | e | e | e | e | e <;> rw [callVE_fn, List.append_nil] <;> simp only [e] at hs ⊢
  · exact wrD_val hid (wr_5 id j x) base
  · exact wrD_val hid (wr_7 id j x) base
  · exact wrD_val hid (wr_10 id j x) base
  · exact wrD_val hid (wr_12 id j x) base
  · exact wrD_val hid (wr_13 id j x (wrap64 (by omega) (by omega)) (wrap64 (by omega) (by omega))) base
  · exact wrD_val hid (wr_14 id j x (wrap64 (by omega) (by omega)) (wrap64 (by omega) (by omega))) base
  · exact wrD_val hid (wr_16 id j x (wrap64 (by omega) (by omega)) (wrap64 (by omega) (by omega))) base
def runX {β : Type} (X : Jny → Option β) (Y : Nat → Int → Option β) : Jny → Bool → Int → Nat → List Leg → Option β
  | j, _, _, _, [] => X j
  | j, bg, last, i, x :: l => if faultL j bg last x = 0 then runX X Y (actL j x) true x.day (i + 1) l else Y i (faultL j bg last x)
def boxL (x : Leg) : AObj := .arr 5 [encL x] true false
theorem Run_L2 {β : Type} {N : Nat} {x0 : AV → AV → Hp → Option β} {xr : AV → AV → AV → Hp → Option β} {X : Jny → Option β} {Y : Nat → Int → Option β}
    (hx : ∀ h j, h[0]? = some (.arr 9 [encJ zeroJ] true false) → h[1]? = some (.arr 9 [encJ j] true false) → x0 (.ptr 0 0 0 1) (.ptr 1 0 0 1) h = X j)
    (hr : ∀ h (i : Nat) e, h[0]? = some (.arr 9 [encJ zeroJ] true false) → xr (.ptr 0 0 0 1) (I i) (I e) h = Y i e) (l : List Leg) (b : Bool) (hl : l.length < 1000000) :
    ∀ (n : Nat) (pre post : List Leg) (j : Jny) (bg : Bool) (last : Int) (h : Hp), l = pre ++ post → post.length < n → InvJ j → bg = decide (0 < (pre.length : Int)) → h[0]? = some (.arr 9 [encJ zeroJ] true false) → h[1]? = some (.arr 9 [encJ j] true false) →
    f_journey_Run_L2 Tryz.prog t_journey_Run d_journey_Run N x0 xr n (.ptr 0 0 0 1) (.ptr 1 0 0 1) (I last) (.lst 5 b (l.map encL)) (I l.length) (I pre.length) h = runX X Y j bg last pre.length post := by
  intro n
  induction n with
  | zero => intro pre post j bg last h _ h2; omega
  | succ n ih =>
    intro pre post j bg last h hc hn hj hbg h0 h1
    show f_journey_Run_b2 Tryz.prog t_journey_Run d_journey_Run N (f_journey_Run_L2 Tryz.prog t_journey_Run d_journey_Run N x0 xr n) x0 xr _ _ _ _ _ _ h = _
    cases post with
    | nil =>
      have : l = pre := by simpa using hc
      subst this
      simp [f_journey_Run_b2, runX, hx h j h0 h1]
    | cons c post =>
      have hi : pre.length < l.length := by rw [hc]; simp
      have hci : l[pre.length]? = some c := by rw [hc]; simp
      have hlt : ((pre.length : Int) < (l.length : Int)) := by omega
      have hw : IntKind.i64.wrap ((pre.length : Int) + 1) = (((pre ++ [c]).length : Nat) : Int) := by rw [wrap64 (by omega) (by omega)]; simp
      have ic : ∀ k : Go.AM.K β, iaK 5 (.lst 5 b (l.map encL)) (I pre.length) k = k (.ep (encL c) 0) := fun k => iaK_at pre.length rfl hci k
      obtain ⟨H, hH⟩ : ∃ H, H = h ++ [boxL c] := ⟨_, rfl⟩
      have H0 : H[0]? = some (.arr 9 [encJ zeroJ] true false) := by rw [hH]; exact get_app h0
      have H1 : H[1]? = some (.arr 9 [encJ j] true false) := by rw [hH]; exact get_app h1
      have HL : H[h.length]? = some (boxL c) := by rw [hH]; simp
      have l1 : 1 < h.length := (List.getElem?_eq_some_iff.1 h1).1
      have ff := F_journey_fault_val j bg last c H
      have ldc : ∀ (g : Hp) (k : Go.AM.K β), ldK 5 true (.ep (encL c) 0) g k = k (.agg (encL c)) := fun g k => by simp [encL]
      have bx : ∀ k : AV → Hp → Option β, effK (boxE 5 (.agg [I 0, I 0, I 0, I 0, I 0]) h.length) h k = k (.ptr h.length 0 0 1) (h ++ [.arr 5 [[I 0, I 0, I 0, I 0, I 0]] true false]) := fun k => effK_box 5 h.length _ h k rfl rfl rfl
      have sx : ∀ k : AV → Hp → Option β, effK (stE 5 (.ptr h.length 0 0 1) (.agg (encL c)) (h ++ [.arr 5 [[I 0, I 0, I 0, I 0, I 0]] true false])) (h ++ [.arr 5 [[I 0, I 0, I 0, I 0, I 0]] true false]) k = k .u H := fun k => by
        rw [hH]; simp [encL, stE, ap, boxL]
      have ldj : ∀ k : Go.AM.K β, ldK 9 true (.ptr 1 0 0 1) H k = k (.agg (encJ j)) := fun k => by simp [H1, encJ]
      have ldx : ∀ k : Go.AM.K β, ldK 5 true (.ptr h.length 0 0 1) H k = k (.agg (encL c)) := fun k => by simp [HL, boxL, encL]
      have gtb : ∀ k : Go.AM.K β, arithK .gtr (I pre.length) (I 0) k = k (B bg) := fun k => by simp [hbg]
      unfold f_journey_Run_b2
      rw [arithK_lss, decide_eq_true hlt, condK_bool, if_pos rfl, ic, ldc, bx, sx, ldj, gtb, ldx, t_journey_Run_34, callK_F, ff]
      clear bx sx ldc ic ldx
      rw [runX]
      by_cases hf : faultL j bg last c = 0
      · rw [if_pos hf]
        obtain ⟨-, hk, -⟩ := faultL_0 hf
        have ga := gact hj hf H1
        have ixc := fun K : AV → Option β => ixk hk K
        have i2 : ∀ (a b c : AV) (k : Go.AM.K β), fldK 1 false 2 (.agg [a, b, c]) k = k c := fun a b c k => rfl
        have hlen : H.length = h.length + 1 := by rw [hH]; simp
        have step := ih (pre ++ [c]) post (actL j c) true c.day (H.set 1 (.arr 9 [encJ (actL j c)] true false)) (by simpa using hc) (by simpa using hn) (actL_inv hj hf) (by simp) (by rw [List.getElem?_set_ne (by omega)]; exact H0) (List.getElem?_set_self (by omega))
        have e1 : (pre ++ [c]).length = pre.length + 1 := by simp
        rw [e1] at step hw
        rw [← step]
        simp only [callVE_fn, List.append_nil] at ga
        have HL' : ∀ o, (H.set 1 o)[h.length]? = some (boxL c) := fun o => by rw [List.getElem?_set_ne (by omega)]; exact HL
        have hw' : IntKind.i64.wrap ((pre.length : Int) + 1) = (pre.length : Int) + 1 := by rw [hw]; simp
        have hneq : h.length ≠ 1 := by omega
        generalize actF c.kind = fa at *
        clear hlen hH
        generalize h.length = q at *
        simp only [boxL, encL] at HL HL'
        simp only [encL] at ga
        simp [hf, G_journey_table_val, HL, HL', ixc, i2, ga, encL, hw', disjAll, disj2, wrOf, ap, idsOf, EF, hneq]
      · have hf' : (faultL j bg last c == 0) = false := by simpa using hf
        rw [if_neg hf]
        have l0 : 0 < H.length := by rw [hH]; simp
        have hrr := fun o => hr (H.set 0 o) pre.length (faultL j bg last c)
        have hset : (H.set 0 (.arr 9 [encJ zeroJ] true false))[0]? = some (.arr 9 [encJ zeroJ] true false) := List.getElem?_set_self l0
        have := hrr _ hset
        rw [← this]
        have z0 := H0
        simp only [encJ, zeroJ] at z0 ⊢
        simp [hf', buildK, fillA, stE, z0, ap]
end Go.AM


namespace Go.AM
open Go.Proofs
set_option linter.unusedVariables false
set_option linter.unusedSimpArgs false
set_option linter.constructorNameAsVariable false
set_option maxRecDepth 20000
def tupR (r : Jny × Int × Int) : AV := .tup [.agg (encJ r.1), I r.2.1, I r.2.2]
theorem runX_eq : ∀ (l : List Leg) (j : Jny) (bg : Bool) (last : Int) (i : Nat), runX (fun j => some (tupR (j, -1, 0))) (fun i e => some (tupR (zeroJ, i, e))) j bg last i l = some (tupR (runL j bg last i l))
  | [], _, _, _, _ => rfl
  | x :: l, j, bg, last, i => by
    rw [runX, runL]
    by_cases h : faultL j bg last x = 0
    · rw [if_pos h, if_pos h, runX_eq l]
    · rw [if_neg h, if_neg h]
theorem F_journey_Run_val (l : List Leg) (b : Bool) (hl : l.length < 1000000) (h : Hp) : F_journey_Run [.lst 5 b (l.map encL)] h = some (tupR (runS l), h) := by
  refine F_journey_Run_run rfl ?_ h
  unfold runS
  by_cases h1 : 128 < l.length
  · have h1' : (128 : Int) < (l.length : Int) := by omega
    rw [if_pos h1]
    simp [f_journey_Run, boxE, h1', buildK, fillA, stE, ap, tupR, encJ, zeroJ]
  · have h1' : ¬ (128 : Int) < (l.length : Int) := by omega
    rw [if_neg h1, ← runX_eq]
    have L := Run_L2 (N := NN) (x0 := fun w46_2 w46_5 h => f_journey_Run_j1 Tryz.prog t_journey_Run d_journey_Run NN (fun v g => cvt false g v) w46_2 w46_5 h) (xr := fun w47_2 w47_3 w47_4 h => ldK 9 true w47_2 h fun r48 => cvt false h (.tup [r48, w47_3, w47_4]))
      (X := fun j => some (tupR (j, -1, 0))) (Y := fun i e => some (tupR (zeroJ, i, e)))
      (fun h j h0 h1 => by
        have l0 : ∀ o : AObj, (h.set 0 o)[0]? = some o := fun o => List.getElem?_set_self (List.getElem?_eq_some_iff.1 h0).1
        simp only [encJ, zeroJ] at h0 h1
        generalize hq : h.set 0 = st at *
        simp [f_journey_Run_j1, h0, h1, stE, ap, tupR, encJ, l0, hq])
      (fun h i e h0 => by
        simp only [encJ, zeroJ] at h0
        simp [h0, tupR, encJ, zeroJ]) l b hl NN [] l zeroJ false 0 [.arr 9 [encJ zeroJ] true false, .arr 9 [encJ zeroJ] true false] rfl (by have := NN_ge; omega) invZ rfl rfl rfl
    rw [← show ((List.length ([] : List Leg) : Nat)) = 0 from rfl, ← L]
    simp [f_journey_Run, boxE, h1', encJ, zeroJ]
theorem F_journey_right_val (l : List Leg) (b : Bool) (hl : l.length < 1000000) (h : Hp) : F_journey_right [.lst 5 b (l.map encL)] h = some (B (okS l), h) := by
  refine F_journey_right_run rfl ?_ h
  have e : ((runS l).2.2 == 0) = okS l := by unfold okS; by_cases q : (runS l).2.2 = 0 <;> simp [q]
  simp [f_journey_right, F_journey_Run_val l b hl, tupR, boxE, stE, ap, encJ, e]
theorem journey_at_L2 {β : Type} {P : Program} {T : Tab} {D : DTab} {N : Nat} {x0 : AV → AV → AV → Hp → Option β} (l : List Leg) (b : Bool) (day : Int) (v4 : AV) (hl : l.length < 1000000) (h : Hp) :
    ∀ (n : Nat) (pre post : List Leg), l = pre ++ post → post.length < n →
    f_journey_at_L2 P T D N x0 n (.lst 5 b (l.map encL)) (I day) v4 (I pre.length) h = x0 (.lst 5 b (l.map encL)) v4 (I ((pre.length + (untilD post day).length : Nat) : Int)) h := by
  intro n
  induction n with
  | zero => intro pre post _ h2; omega
  | succ n ih =>
    intro pre post hc hn
    show f_journey_at_b2 P T D N (f_journey_at_L2 P T D N x0 n) x0 _ _ _ _ h = _
    cases post with
    | nil =>
      have : l = pre := by simpa using hc
      subst this
      simp [f_journey_at_b2, untilD]
    | cons c post =>
      have hi : pre.length < l.length := by rw [hc]; simp
      have hci : l[pre.length]? = some c := by rw [hc]; simp
      have hlt : ((pre.length : Int) < (l.length : Int)) := by omega
      have ic : ∀ k : Go.AM.K β, iaK 5 (.lst 5 b (l.map encL)) (I pre.length) k = k (.ep (encL c) 0) := fun k => iaK_at pre.length rfl hci k
      have hlen : lenK (.lst 5 b (l.map encL)) = fun k : Go.AM.K β => k (I l.length) := by funext k; simp
      have hw : IntKind.i64.wrap ((pre.length : Int) + 1) = (((pre ++ [c]).length : Nat) : Int) := by rw [wrap64 (by omega) (by omega)]; simp
      have step := ih (pre ++ [c]) post (by simpa using hc) (by simpa using hn)
      simp only [encL] at ic
      by_cases q : c.day ≤ day
      · have e : (untilD (c :: post) day).length = (untilD post day).length + 1 := by unfold untilD; rw [List.takeWhile_cons_of_pos (by simpa using q)]; rfl
        have e2 : (pre ++ [c]).length + (untilD post day).length = pre.length + (untilD (c :: post) day).length := by rw [e]; simp; omega
        rw [← e2, ← step]
        simp only [f_journey_at_b2, hlen, arithK_lss, hlt, decide_true]
        simp [encL, ic, q, hw]
      · have e : (untilD (c :: post) day).length = 0 := by unfold untilD; rw [List.takeWhile_cons_of_neg (by simpa using q)]; rfl
        rw [e, Nat.add_zero]
        simp only [f_journey_at_b2, hlen, arithK_lss, hlt, decide_true]
        simp [encL, ic, q]
theorem take_until (l : List Leg) (day : Int) : l.take (untilD l day).length = untilD l day := by
  obtain ⟨m, hm⟩ := until_pre l day
  conv => lhs; rw [show l.take (untilD l day).length = (untilD l day ++ m).take (untilD l day).length by rw [← hm]]
  simp
theorem until_len (l : List Leg) (day : Int) : (untilD l day).length ≤ l.length := by
  obtain ⟨m, hm⟩ := until_pre l day
  have := congrArg List.length hm
  rw [List.length_append] at this
  omega
theorem F_journey_at_val (l : List Leg) (b : Bool) (day : Int) (hok : okS l = true) (hl : l.length < 1000000) (h : Hp) : F_journey_at [.lst 5 b (l.map encL), I day] h = some (.agg (encJ (atL l day)), h) := by
  refine F_journey_at_run rfl ?_ h
  have hu := until_len l day
  have L := journey_at_L2 (P := Tryz.prog) (T := t_journey_at) (D := d_journey_at) (N := NN) (x0 := fun w27_0 w27_4 w27_5 h => f_journey_at_j1 Tryz.prog t_journey_at d_journey_at NN (fun v g => cvt false g v) w27_0 w27_4 w27_5 h) l b day (.ptr 0 0 0 1) hl [.arr 9 [encJ zeroJ] true false] NN [] l rfl (by have := NN_ge; omega)
  have sl : ∀ k : Go.AM.K AV, sliceK 5 (.lst 5 b (l.map encL)) none (some (I ((untilD l day).length : Int))) none k = k (.lst 5 b ((untilD l day).map encL)) := fun k => by
    rw [sliceK_take hu, take_until]
  have fr := F_journey_Run_val (untilD l day) b (by omega)
  rw [at_run hok day] at fr
  refine Eq.trans ?_ (L.trans ?_)
  · simp [f_journey_at, boxE, encJ, zeroJ]
  · simp only [List.length_nil, Nat.zero_add, f_journey_at_j1, sl]
    simp [fr, tupR, boxE, stE, ap, encJ, zeroJ]
end Go.AM


namespace Go.AM
open Go.Proofs
set_option linter.unusedVariables false
set_option linter.unusedSimpArgs false
set_option linter.constructorNameAsVariable false
set_option maxRecDepth 20000
theorem F_ref40_Node_val (a : Int) (h : Hp) : F_ref40_Node [I a] h = some (B (win a 1 99), h) := F_ref40_Node_run rfl (by by_cases q : 1 ≤ a <;> simp [f_ref40_Node, win, q]) h
def formS (x : Leg) : Int := if (win x.day 0 100000 && win x.kind 1 7 && formL x) = true then 0 else 2
theorem form_j1 {β : Type} {P : Program} {T : Tab} {D : DTab} {N : Nat} {K : AV → Hp → Option β} (x : Leg) (ok : Bool) {h : Hp} (h0 : h[0]? = some (boxL x)) : f_ref45_form_j1 P T D N K (.ptr 0 0 0 1) (B ok) h = K (I (if (win x.day 0 100000 && ok) = true then 0 else 2)) h := by
  simp only [boxL, encL] at h0
  by_cases c1 : x.day < 0
  · have : win x.day 0 100000 = false := by simp [win]; omega
    simp [f_ref45_form_j1, h0, c1, this]
  · by_cases c2 : 100000 < x.day
    · have : win x.day 0 100000 = false := by simp [win]; omega
      simp [f_ref45_form_j1, h0, c1, c2, this]
    · have : win x.day 0 100000 = true := by simp [win]; omega
      cases ok <;> simp [f_ref45_form_j1, h0, c1, c2, this]
set_option maxHeartbeats 4000000 in
theorem F_ref45_form_val (x : Leg) (h : Hp) : F_ref45_form [.agg (encL x)] h = some (I (formS x), h) := by
  refine F_ref45_form_run (by simp [encL]) ?_ h
  obtain ⟨day, kind, place, to, alc⟩ := x
  have J := fun ok => form_j1 (β := AV) (P := Tryz.prog) (T := t_ref45_form) (D := d_ref45_form) (N := NN) (K := fun v g => cvt false g v) ⟨day, kind, place, to, alc⟩ ok (h := [.arr 5 [[I day, I kind, I place, I to, I alc]] true false]) rfl
  unfold formS
  dsimp only at J ⊢
  by_cases hk : 1 ≤ kind ∧ kind ≤ 7
  · have wk : win kind 1 7 = true := by simpa [win] using hk
    rw [wk, Bool.and_true]
    unfold formL partL
    dsimp only
    by_cases a1 : 1 ≤ alc
    · by_cases a2 : alc ≤ 10737418240000
      · have wa : win alc 1 10737418240000 = true := by simp [win, a1, a2]
        have wb : win alc 0 10737418240000 = true := by simp [win]; omega
        rcases kinds7 hk with e | e | e | e | e | e | e <;> subst e
        · cases c1 : win place 1 99 <;> cases c2 : win to 1 99 <;> cases c3 : (place == to) <;> simp [f_ref45_form, f_ref45_form_j2, f_ref45_form_j3, boxE, encL, a1, a2, wa, c1, c2, c3, bne, F_ref40_Node_val, J]
        · cases c1 : win place 1 99 <;> cases c2 : (to == 0) <;> simp [f_ref45_form, f_ref45_form_j2, f_ref45_form_j3, boxE, encL, a1, a2, wa, c1, c2, F_ref40_Node_val, J]
        · cases c1 : (place == 0) <;> cases c2 : (to == 0) <;> simp [f_ref45_form, f_ref45_form_j2, f_ref45_form_j3, boxE, encL, a1, a2, wa, c1, c2, F_ref40_Node_val, J]
        · cases c1 : (place == 0) <;> cases c2 : win to 1 99 <;> simp [f_ref45_form, f_ref45_form_j2, f_ref45_form_j3, boxE, encL, a1, a2, wa, c1, c2, F_ref40_Node_val, J]
        · cases c1 : (place == 0) <;> cases c2 : (to == 0) <;> simp [f_ref45_form, f_ref45_form_j2, f_ref45_form_j3, boxE, encL, a1, a2, wa, c1, c2, F_ref40_Node_val, J]
        · cases c1 : (place == 0) <;> cases c2 : (to == 0) <;> simp [f_ref45_form, f_ref45_form_j2, f_ref45_form_j3, boxE, encL, a1, a2, wa, c1, c2, F_ref40_Node_val, J]
        · cases c1 : win place 1 99 <;> cases c2 : (to == 0) <;> simp [f_ref45_form, f_ref45_form_j2, f_ref45_form_j3, boxE, encL, a1, a2, wb, c1, c2, F_ref40_Node_val, J]
      · have wa : win alc 1 10737418240000 = false := by simp [win, a1, a2]
        have wb : win alc 0 10737418240000 = false := by simp [win]; omega
        have a3 : (alc == 0) = false := by simp; omega
        rcases kinds7 hk with e | e | e | e | e | e | e <;> subst e
        · cases c1 : win place 1 99 <;> cases c2 : win to 1 99 <;> cases c3 : (place == to) <;> simp [f_ref45_form, f_ref45_form_j2, f_ref45_form_j3, boxE, encL, a1, a2, wa, c1, c2, c3, bne, F_ref40_Node_val, J]
        · cases c1 : win place 1 99 <;> cases c2 : (to == 0) <;> simp [f_ref45_form, f_ref45_form_j2, f_ref45_form_j3, boxE, encL, a1, a2, a3, wa, c1, c2, F_ref40_Node_val, J]
        · cases c1 : (place == 0) <;> cases c2 : (to == 0) <;> simp [f_ref45_form, f_ref45_form_j2, f_ref45_form_j3, boxE, encL, a1, a2, a3, wa, c1, c2, F_ref40_Node_val, J]
        · cases c1 : (place == 0) <;> cases c2 : win to 1 99 <;> simp [f_ref45_form, f_ref45_form_j2, f_ref45_form_j3, boxE, encL, a1, a2, a3, wa, c1, c2, F_ref40_Node_val, J]
        · cases c1 : (place == 0) <;> cases c2 : (to == 0) <;> simp [f_ref45_form, f_ref45_form_j2, f_ref45_form_j3, boxE, encL, a1, a2, wa, c1, c2, F_ref40_Node_val, J]
        · cases c1 : (place == 0) <;> cases c2 : (to == 0) <;> simp [f_ref45_form, f_ref45_form_j2, f_ref45_form_j3, boxE, encL, a1, a2, wa, c1, c2, F_ref40_Node_val, J]
        · cases c1 : win place 1 99 <;> cases c2 : (to == 0) <;> simp [f_ref45_form, f_ref45_form_j2, f_ref45_form_j3, boxE, encL, a1, a2, a3, wb, c1, c2, F_ref40_Node_val, J]
    · have wa : win alc 1 10737418240000 = false := by simp [win, a1]
      have wb : win alc 0 10737418240000 = (alc == 0) := by
        by_cases q : alc = 0
        · rw [q]; rfl
        · have q' : (alc == 0) = false := by simpa using q
          rw [q']; simp [win]; omega
      rcases kinds7 hk with e | e | e | e | e | e | e <;> subst e
      · cases c1 : win place 1 99 <;> cases c2 : win to 1 99 <;> cases c3 : (place == to) <;> simp [f_ref45_form, f_ref45_form_j2, f_ref45_form_j3, boxE, encL, a1, wa, c1, c2, c3, bne, F_ref40_Node_val, J]
      · cases c1 : win place 1 99 <;> cases c2 : (to == 0) <;> simp [f_ref45_form, f_ref45_form_j2, f_ref45_form_j3, boxE, encL, a1, wa, c1, c2, F_ref40_Node_val, J]
      · cases c1 : (place == 0) <;> cases c2 : (to == 0) <;> simp [f_ref45_form, f_ref45_form_j2, f_ref45_form_j3, boxE, encL, a1, wa, c1, c2, F_ref40_Node_val, J]
      · cases c1 : (place == 0) <;> cases c2 : win to 1 99 <;> simp [f_ref45_form, f_ref45_form_j2, f_ref45_form_j3, boxE, encL, a1, wa, c1, c2, F_ref40_Node_val, J]
      · cases c1 : (place == 0) <;> cases c2 : (to == 0) <;> simp [f_ref45_form, f_ref45_form_j2, f_ref45_form_j3, boxE, encL, a1, wa, c1, c2, F_ref40_Node_val, J]
      · cases c1 : (place == 0) <;> cases c2 : (to == 0) <;> simp [f_ref45_form, f_ref45_form_j2, f_ref45_form_j3, boxE, encL, a1, wa, c1, c2, F_ref40_Node_val, J]
      · cases c1 : win place 1 99 <;> cases c2 : (to == 0) <;> simp [f_ref45_form, f_ref45_form_j2, f_ref45_form_j3, boxE, encL, a1, wb, c1, c2, F_ref40_Node_val, J]
  · have wk : win kind 1 7 = false := by
      cases q : win kind 1 7
      · rfl
      · exact absurd (by simpa [win] using q) hk
    rw [wk, Bool.and_false, Bool.false_and]
    have k1 : (kind == 1) = false := by simp; omega
    have k2 : (kind == 2) = false := by simp; omega
    have k3 : (kind == 3) = false := by simp; omega
    have k4 : (kind == 4) = false := by simp; omega
    have k5 : (kind == 5) = false := by simp; omega
    have k6 : (kind == 6) = false := by simp; omega
    have k7 : (kind == 7) = false := by simp; omega
    by_cases a1 : 1 ≤ alc
    · by_cases a2 : alc ≤ 10737418240000 <;> simp [f_ref45_form, f_ref45_form_j2, f_ref45_form_j3, boxE, encL, a1, a2, k1, k2, k3, k4, k5, k6, k7, J]
    · simp [f_ref45_form, f_ref45_form_j2, f_ref45_form_j3, boxE, encL, a1, k1, k2, k3, k4, k5, k6, k7, J]
end Go.AM


namespace Go.AM
open Go.Proofs
set_option linter.unusedVariables false
set_option linter.unusedSimpArgs false
set_option linter.constructorNameAsVariable false
set_option maxRecDepth 20000
theorem faultL_form {j : Jny} {bg : Bool} {last : Int} {x : Leg} (h : formS x ≠ 0) : formS x = 2 ∧ faultL j bg last x = 2 := by
  unfold formS at h ⊢
  unfold faultL
  cases q : (win x.day 0 100000 && win x.kind 1 7 && formL x) with
  | true => rw [q] at h; simp at h
  | false => simp
theorem formS_0 {x : Leg} (h : formS x = 0) : (win x.day 0 100000 && win x.kind 1 7 && formL x) = true := by
  unfold formS at h
  cases q : (win x.day 0 100000 && win x.kind 1 7 && formL x) with
  | true => rfl
  | false => rw [q] at h; simp at h
def tailL (j : Jny) (x : Leg) : Int := if refL j x.kind = true then 11 else if (x.kind = 4 ∧ x.to = j.frm) ∨ (x.kind = 7 ∧ x.place ≠ j.to) then 10 else if 5 ≤ x.kind ∧ j.tra < x.alc then 17 else 0
theorem faultL_tail {j : Jny} {bg : Bool} {last : Int} {x : Leg} (h : formS x = 0) : faultL j bg last x = if x.day < last then 5 else if ((bg == decide (x.kind = 1)) || j.endd) = true then 11 else tailL j x := by
  unfold faultL tailL
  rw [formS_0 h]
  simp only [Bool.true_eq_false, if_false, Bool.or_eq_true]
  by_cases q1 : x.day < last
  · simp [q1]
  · by_cases q2 : (bg == decide (x.kind = 1)) = true ∨ j.endd = true
    · rw [if_neg q1, if_neg q1, if_pos (.inl q2), if_pos q2]
    · rw [if_neg q1, if_neg q1, if_neg q2]
      by_cases q3 : refL j x.kind = true
      · rw [if_pos (.inr q3), if_pos q3]
      · rw [if_neg (fun h => h.elim q2 q3), if_neg q3]
set_option maxHeartbeats 4000000 in
theorem F_ref45_refused_val (j : Jny) (pre : List Leg) (b : Bool) (bg : Bool) (last : Int) (x : Leg) (ht : 0 ≤ j.tra) (hb : bg = decide (0 < (pre.length : Int))) (hla : match pre.getLast? with | none => last = 0 | some q => last = q.day) (hl : pre.length < 1000000) (h : Hp) :
    F_ref45_refused [.agg (encJ j), .lst 5 b (pre.map encL), .agg (encL x)] h = some (I (faultL j bg last x), h) := by
  refine F_ref45_refused_run (by simp [encL, encJ]) ?_ h
  have ff := F_ref45_form_val x
  by_cases hf : formS x = 0
  · rw [faultL_tail hf]
    have hw := formS_0 hf
    simp only [Bool.and_eq_true, win, decide_eq_true_eq] at hw
    obtain ⟨⟨hd, hk⟩, hfo⟩ := hw
    rw [hf] at ff
    have tail : x.day < last ∨ (((bg == decide (x.kind = 1)) || j.endd) = true) ∨ (¬ x.day < last ∧ ((bg == decide (x.kind = 1)) || j.endd) = false) := by
      by_cases q : x.day < last
      · exact .inl q
      · cases q2 : ((bg == decide (x.kind = 1)) || j.endd) with
        | true => exact .inr (.inl rfl)
        | false => exact .inr (.inr ⟨q, rfl⟩)
    -- the order, in both forms
    have e1 : ((pre.length : Int) == 0) = !bg := by
      rw [hb]
      cases pre with
      | nil => rfl
      | cons a t =>
        have : (((a :: t).length : Int) == 0) = false := by simp; omega
        rw [this]; simp
    have e2 : (x.kind == 1) = decide (x.kind = 1) := by by_cases q : x.kind = 1 <;> simp [q]
    have e3 : (!bg == decide (x.kind = 1)) = !(bg == decide (x.kind = 1)) := by cases bg <;> cases decide (x.kind = 1) <;> rfl
    have ord : ∀ (H : Hp) (K : AV → Hp → Option AV), H[1]? = some (boxL x) → (arithK .gtr (I pre.length) (I 0) fun x10 =>
        grpK true x10 H (fun k11 => faK 0 (.ptr 1 0 0 1) fun x12 => ldK 1 false x12 H fun x13 => arithK .sub (I pre.length) (I 1) fun x15 => iaK 5 (.lst 5 b (pre.map encL)) x15 fun x16 => faK 0 x16 fun x17 => ldK 1 false x17 H fun x18 => arithK .lss x13 x18 fun x19 => k11 x19 H) K) = K (B (decide (x.day < last))) H := by
      intro H K hH
      simp only [boxL, encL] at hH
      cases hp : pre.getLast? with
      | none =>
        rw [List.getLast?_eq_none_iff] at hp
        subst hp
        simp only [List.getLast?_nil] at hla
        have : ¬ x.day < last := by omega
        simp [this]
      | some q =>
        rw [hp] at hla
        dsimp only at hla
        have hl0 : pre.length ≠ 0 := by intro e; rw [List.eq_nil_of_length_eq_zero e] at hp; simp at hp
        have hqi : pre[pre.length - 1]? = some q := by rw [← hp, List.getLast?_eq_getElem?]
        have w1 : IntKind.i64.wrap ((pre.length : Int) - 1) = (pre.length : Int) - 1 := wrap64 (by omega) (by omega)
        have iq : ∀ k : Go.AM.K AV, iaK 5 (.lst 5 b (pre.map encL)) (I ((pre.length : Int) - 1)) k = k (.ep (encL q) 0) := fun k => iaK_at (pre.length - 1) (by omega) hqi k
        have hp0 : (0 : Int) < (pre.length : Int) := by omega
        have ln : ∀ k : Go.AM.K AV, lenK (.lst 5 b (pre.map encL)) k = k (I pre.length) := fun k => by simp
        simp only [encL] at iq
        generalize pre.map encL = L at *
        generalize (pre.length : Int) = m at *
        simp [hp0, hH, ln, w1, iq, hla]
    have ln : ∀ k : Go.AM.K AV, lenK (.lst 5 b (pre.map encL)) k = k (I pre.length) := fun k => by simp
    have head : f_ref45_refused Tryz.prog t_ref45_refused d_ref45_refused NN (fun v g => cvt false g v) (.agg (encJ j)) (nrm (.l 5) (.lst 5 b (pre.map encL))) (.agg (encL x)) [] =
        if x.day < last then some (I 5) else if ((bg == decide (x.kind = 1)) || j.endd) = true then some (I 11) else some (I (tailL j x)) := by
      have o := fun K => ord [.arr 9 [encJ j] true false, boxL x] K rfl
      have bx1 : ∀ k : AV → Hp → Option AV, effK (boxE 9 (.agg (encJ j)) ([] : Hp).length) [] k = k (.ptr 0 0 0 1) [.arr 9 [encJ j] true false] := fun k => effK_box 9 0 _ [] k rfl rfl rfl
      have bx2 : ∀ k : AV → Hp → Option AV, effK (boxE 5 (.agg (encL x)) ([AObj.arr 9 [encJ j] true false] : Hp).length) [.arr 9 [encJ j] true false] k = k (.ptr 1 0 0 1) [.arr 9 [encJ j] true false, boxL x] := fun k => effK_box 5 1 _ [.arr 9 [encJ j] true false] k rfl rfl rfl
      have ldx : ∀ k : Go.AM.K AV, ldK 5 true (.ptr 1 0 0 1) [.arr 9 [encJ j] true false, boxL x] k = k (.agg (encL x)) := fun k => by simp [boxL, encL]
      unfold f_ref45_refused
      rw [bx1, bx2, ldx, t_ref45_refused_84, callK_F, ff]
      simp only [eqK_int, Bool.true_xor, beq_self_eq_true, Bool.not_true, condK_bool, Bool.false_eq_true, if_false, nrm, nrmC, ln]
      rw [o]
      clear o ord bx1 bx2 ldx ff
      by_cases q1 : x.day < last
      · simp [q1]
      rw [if_neg q1, condK_bool, if_neg (by simpa using q1)]
      cases q2 : (bg == decide (x.kind = 1)) with
      | true =>
        simp [boxL, encL, encJ, eqK_bool, e1, e2, e3, q2]
        intro hn
        exact absurd (by simpa using q2) hn
      | false =>
        cases q3 : j.endd with
        | true => simp [boxL, encL, encJ, eqK_bool, e1, e2, e3, q2, q3]
        | false =>
          have halc : x.kind ≤ 4 → x.kind ≠ 1 → x.alc = 0 := by
            intro g1 g2
            have : x.kind = 2 ∨ x.kind = 3 ∨ x.kind = 4 := by omega
            unfold formL at hfo
            rcases this with e | e | e <;> simp [e] at hfo <;> exact hfo.2
          clear tail hla hb hd hfo ln hl
          obtain ⟨day, kind, place, to, alc⟩ := x
          obtain ⟨dep, spl, lost, arr, tra, frm, jto, halt, endd⟩ := j
          dsimp only at *
          subst q3
          unfold tailL refL
          dsimp only
          have qb : bg = !decide (kind = 1) := by cases bg <;> cases hd : decide (kind = 1) <;> simp_all
          clear q2 e3
          rcases kinds7 hk with e | e | e | e | e | e | e <;> subst e <;> simp at qb <;> subst qb
          · cases halt <;> simp [boxL, encL, encJ, eqK_bool, e1, e2]
          · have := halc (by decide) (by decide); subst this
            have ht' : ¬ tra < 0 := by omega
            cases halt <;> simp [boxL, encL, encJ, eqK_bool, e1, e2, ht', ht]
          · have := halc (by decide) (by decide); subst this
            have ht' : ¬ tra < 0 := by omega
            cases halt <;> simp [boxL, encL, encJ, eqK_bool, e1, e2, ht', ht]
          · have := halc (by decide) (by decide); subst this
            have ht' : ¬ tra < 0 := by omega
            cases halt <;> cases d : (to == frm) <;> simp [boxL, encL, encJ, eqK_bool, e1, e2, ht', ht, d] <;> simp_all
          · by_cases d : tra < alc <;> cases halt <;> simp [boxL, encL, encJ, eqK_bool, e1, e2, d]
          · by_cases d : tra < alc <;> cases halt <;> simp [boxL, encL, encJ, eqK_bool, e1, e2, d]
          · cases halt
            · cases d2 : (place == jto)
              · have d2' : ¬ place = jto := by simpa using d2
                simp [boxL, encL, encJ, eqK_bool, e1, e2, d2, d2']
              · have d2' : place = jto := by simpa using d2
                by_cases d : tra < alc <;> simp [boxL, encL, encJ, eqK_bool, e1, e2, d, d2, d2']
            · simp [boxL, encL, encJ, eqK_bool, e1, e2]
    rw [head]
    split
    · rfl
    · split <;> rfl
  · obtain ⟨g1, g2⟩ := faultL_form (j := j) (bg := bg) (last := last) hf
    rw [g1] at ff
    rw [g2]
    simp [f_ref45_refused, boxE, encJ, encL] at ff ⊢
    simp [ff]
end Go.AM


namespace Go.AM
open Go.Proofs
set_option linter.unusedVariables false
set_option linter.unusedSimpArgs false
set_option linter.constructorNameAsVariable false
set_option maxRecDepth 20000
set_option maxHeartbeats 20000000 in
theorem F_ref45_behind_val {j : Jny} {bg : Bool} {last : Int} {x : Leg} (hj : InvJ j) (hf : faultL j bg last x = 0) (h : Hp) : F_ref45_behind [.agg (encJ j), .agg (encL x)] h = some (.agg (encJ (actL j x)), h) := by
  refine F_ref45_behind_run (by simp [encL, encJ]) ?_ h
  obtain ⟨-, hk, hfo, -, -, -, -, -, -, hs⟩ := faultL_0 hf
  have hb := formL_bd hk hfo
  obtain ⟨s1, s2, s3, s4, s5, s6, s7, s8⟩ := hj
  clear hf hfo
  obtain ⟨day, kind, place, to, alc⟩ := x
  obtain ⟨dep, spl, lost, arr, tra, frm, jto, halt, endd⟩ := j
  dsimp only at *
  unfold actL
  dsimp only
  rcases kinds7 hk with e | e | e | e | e | e | e <;> subst e
  · simp (maxSteps := 10000000) [f_ref45_behind, boxE, encL, encJ, buildK, fillA, stE, ap]
  · simp (maxSteps := 10000000) [f_ref45_behind, f_ref45_behind_j2, f_ref45_behind_j1, boxE, encL, encJ, stE, ap]
  · simp (maxSteps := 10000000) [f_ref45_behind, f_ref45_behind_j2, f_ref45_behind_j1, boxE, encL, encJ, stE, ap]
  · simp (maxSteps := 10000000) [f_ref45_behind, f_ref45_behind_j2, f_ref45_behind_j1, boxE, encL, encJ, stE, ap]
  · have w1 : IntKind.i64.wrap (spl + alc) = spl + alc := wrap64 (by omega) (by omega)
    have w2 : IntKind.i64.wrap (tra - alc) = tra - alc := wrap64 (by omega) (by omega)
    simp (maxSteps := 10000000) [f_ref45_behind, f_ref45_behind_j2, f_ref45_behind_j1, boxE, encL, encJ, stE, ap, w1, w2, disjAll, disj2, wrOf, idsOf]
  · have w1 : IntKind.i64.wrap (lost + alc) = lost + alc := wrap64 (by omega) (by omega)
    have w2 : IntKind.i64.wrap (tra - alc) = tra - alc := wrap64 (by omega) (by omega)
    simp (maxSteps := 10000000) [f_ref45_behind, f_ref45_behind_j2, f_ref45_behind_j1, boxE, encL, encJ, stE, ap, w1, w2, disjAll, disj2, wrOf, idsOf]
  · have w1 : IntKind.i64.wrap (lost + tra) = lost + tra := wrap64 (by omega) (by omega)
    have w2 : IntKind.i64.wrap (lost + tra - alc) = lost + tra - alc := wrap64 (by omega) (by omega)
    simp (maxSteps := 10000000) [f_ref45_behind, f_ref45_behind_j2, f_ref45_behind_j1, boxE, encL, encJ, stE, ap, w1, w2, disjAll, disj2, wrOf, idsOf]
end Go.AM


namespace Go.AM
open Go.Proofs
set_option linter.unusedVariables false
set_option linter.unusedSimpArgs false
set_option linter.constructorNameAsVariable false
set_option maxRecDepth 20000
theorem ref_Run_L2 {β : Type} {N : Nat} {D : DTab} {x0 : AV → AV → Hp → Option β} {xr : AV → AV → AV → Hp → Option β} {X : Jny → Option β} {Y : Nat → Int → Option β}
    (hx : ∀ j, x0 (.ptr 0 0 0 1) (.ptr 1 0 0 1) [.arr 9 [encJ zeroJ] true false, .arr 9 [encJ j] true false] = X j)
    (hr : ∀ j (i : Nat) e, xr (.ptr 0 0 0 1) (I i) (I e) [.arr 9 [encJ zeroJ] true false, .arr 9 [encJ j] true false] = Y i e) (l : List Leg) (b : Bool) (hl : l.length < 1000000) :
    ∀ (n : Nat) (pre post : List Leg) (j : Jny) (bg : Bool) (last : Int), l = pre ++ post → post.length < n → InvJ j → bg = decide (0 < (pre.length : Int)) → (match pre.getLast? with | none => last = 0 | some q => last = q.day) →
    f_ref45_Run_L2 Tryz.prog t_ref45_Run D N x0 xr n (.lst 5 b (l.map encL)) (.ptr 0 0 0 1) (.ptr 1 0 0 1) (I pre.length) [.arr 9 [encJ zeroJ] true false, .arr 9 [encJ j] true false] = runX X Y j bg last pre.length post := by
  intro n
  induction n with
  | zero => intro pre post j bg last _ h2; omega
  | succ n ih =>
    intro pre post j bg last hc hn hj hbg hla
    show f_ref45_Run_b2 Tryz.prog t_ref45_Run D N (f_ref45_Run_L2 Tryz.prog t_ref45_Run D N x0 xr n) x0 xr _ _ _ _ _ = _
    cases post with
    | nil =>
      have : l = pre := by simpa using hc
      subst this
      simp [f_ref45_Run_b2, runX, hx]
    | cons c post =>
      have hi : pre.length < l.length := by rw [hc]; simp
      have hci : l[pre.length]? = some c := by rw [hc]; simp
      have hlt : ((pre.length : Int) < (l.length : Int)) := by omega
      have ic : ∀ k : Go.AM.K β, iaK 5 (.lst 5 b (l.map encL)) (I pre.length) k = k (.ep (encL c) 0) := fun k => iaK_at pre.length rfl hci k
      have hlen : lenK (.lst 5 b (l.map encL)) = fun k : Go.AM.K β => k (I l.length) := by funext k; simp
      have hw : IntKind.i64.wrap ((pre.length : Int) + 1) = (((pre ++ [c]).length : Nat) : Int) := by rw [wrap64 (by omega) (by omega)]; simp
      have sl : ∀ k : Go.AM.K β, sliceK 5 (.lst 5 b (l.map encL)) none (some (I (pre.length : Int))) none k = k (.lst 5 b (pre.map encL)) := fun k => by
        rw [sliceK_take (by omega), show l.take pre.length = pre by rw [hc]; simp]
      have fr := F_ref45_refused_val j pre b bg last c hj.tra hbg hla (by omega)
      simp only [f_ref45_Run_b2, hlen, arithK_lss, hlt, decide_true, condK_bool, if_true, sl, ic]
      clear sl ic hlen
      rw [runX]
      by_cases hf : faultL j bg last c = 0
      · rw [if_pos hf]
        rw [hf] at fr
        have fb := F_ref45_behind_val hj hf
        have step := ih (pre ++ [c]) post (actL j c) true c.day (by simpa using hc) (by simpa using hn) (actL_inv hj hf) (by simp) (by simp)
        have e1 : (pre ++ [c]).length = pre.length + 1 := by simp
        rw [e1] at step hw
        rw [← step]
        have hw' : IntKind.i64.wrap ((pre.length : Int) + 1) = (pre.length : Int) + 1 := by rw [hw]; simp
        simp only [encL, encJ] at fr fb ⊢
        simp [fr, fb, stE, ap, hw', encL, encJ]
      · have hf' : (faultL j bg last c == 0) = false := by simpa using hf
        rw [if_neg hf, ← hr j]
        simp only [encL, encJ, zeroJ] at fr ⊢
        simp [fr, hf', buildK, fillA, stE, ap, encL, encJ]
theorem F_ref45_Run_val (l : List Leg) (b : Bool) (hl : l.length < 1000000) (h : Hp) : F_ref45_Run [.lst 5 b (l.map encL)] h = some (tupR (runS l), h) := by
  refine F_ref45_Run_run rfl ?_ h
  unfold runS
  by_cases h1 : 128 < l.length
  · have h1' : (128 : Int) < (l.length : Int) := by omega
    rw [if_pos h1]
    simp [f_ref45_Run, boxE, h1', buildK, fillA, stE, ap, tupR, encJ, zeroJ]
  · have h1' : ¬ (128 : Int) < (l.length : Int) := by omega
    rw [if_neg h1, ← runX_eq]
    have L := ref_Run_L2 (N := NN) (D := d_ref45_Run) (x0 := fun w46_2 w46_5 h => f_ref45_Run_j1 Tryz.prog t_ref45_Run d_ref45_Run NN (fun v g => cvt false g v) w46_2 w46_5 h) (xr := fun w47_2 w47_3 w47_4 h => ldK 9 true w47_2 h fun r48 => cvt false h (.tup [r48, w47_3, w47_4]))
      (X := fun j => some (tupR (j, -1, 0))) (Y := fun i e => some (tupR (zeroJ, i, e)))
      (fun j => by simp [f_ref45_Run_j1, stE, ap, tupR, encJ, zeroJ])
      (fun j i e => by simp [tupR, encJ, zeroJ]) l b hl NN [] l zeroJ false 0 rfl (by have := NN_ge; omega) invZ rfl rfl
    rw [← show ((List.length ([] : List Leg) : Nat)) = 0 from rfl, ← L]
    simp [f_ref45_Run, boxE, h1', encJ, zeroJ]
theorem F_ref45_right_val (l : List Leg) (b : Bool) (hl : l.length < 1000000) (h : Hp) : F_ref45_right [.lst 5 b (l.map encL)] h = some (B (okS l), h) := by
  refine F_ref45_right_run rfl ?_ h
  have e : ((runS l).2.2 == 0) = okS l := by unfold okS; by_cases q : (runS l).2.2 = 0 <;> simp [q]
  simp [f_ref45_right, F_ref45_Run_val l b hl, tupR, boxE, stE, ap, encJ, e]
theorem F_ref31_Day_val' (a : Int) (h : Hp) : F_ref31_Day [I a] h = some (B (win a 0 100000), h) := F_ref31_Day_run rfl (by simp [f_ref31_Day, win]) h
def fewL (n : Nat) : Bool := decide (n ≤ 16) || decide (n = 129)
theorem fewL_bd {n : Nat} (h : fewL n = true) : n ≤ 129 := by simp [fewL] at h; omega
theorem F_ref45_Few_val (l : List Leg) (b : Bool) (h : Hp) : F_ref45_Few [.lst 5 b (l.map encL)] h = some (B (fewL l.length), h) := by
  refine F_ref45_Few_run rfl ?_ h
  unfold fewL
  by_cases h1 : l.length ≤ 16
  · have h1' : (l.length : Int) ≤ 16 := by omega
    simp [f_ref45_Few, h1, h1']
  · have h1' : ¬ (l.length : Int) ≤ 16 := by omega
    by_cases h2 : l.length = 129
    · simp [f_ref45_Few, h1, h1', h2]
    · have h2' : ((l.length : Int) == 129) = false := by simp; omega
      simp [f_ref45_Few, h1, h1', h2, h2']
end Go.AM


namespace Go.AM
open Go.Proofs
set_option linter.unusedVariables false
set_option linter.unusedSimpArgs false
set_option linter.constructorNameAsVariable false
set_option maxRecDepth 20000
structure Los where
  ev : Int
  op : Int
  df : Int
  su : Int
deriving DecidableEq
def encO (x : Los) : List AV := [I x.ev, I x.op, I x.df, I x.su]
def lossL (e f a o : Int) : Los := if e < f then ⟨0, 0, 0, f - e⟩ else ⟨min a (e - f), min o (e - f - min a (e - f)), e - f - min a (e - f) - min o (e - f - min a (e - f)), 0⟩
def alcL (n : Int) : Bool := win n 0 10737418240000
theorem loss_amount_L2 {β : Type} {P : Program} {T : Tab} {D : DTab} {N : Nat} {x0 : Hp → Option β} {xr : AV → Hp → Option β} (l : List Int) (b : Bool) (hl : l.length < 1000000) (h : Hp) : ∀ (n : Nat) (pre post : List Int), l = pre ++ post → post.length < n →
    f_loss_amount_L2 P T D N x0 xr n (.lst 1 b (l.map encI)) (I l.length) (I pre.length) h = if post.all alcL = true then x0 h else xr (B false) h := by
  intro n
  induction n with
  | zero => intro pre post _ h2; omega
  | succ n ih =>
    intro pre post hc hn
    show f_loss_amount_b2 P T D N (f_loss_amount_L2 P T D N x0 xr n) x0 xr _ _ _ h = _
    cases post with
    | nil =>
      have : l = pre := by simpa using hc
      subst this
      simp [f_loss_amount_b2]
    | cons c post =>
      have hi : pre.length < l.length := by rw [hc]; simp
      have hci : l[pre.length]? = some c := by rw [hc]; simp
      have hlt : ((pre.length : Int) < (l.length : Int)) := by omega
      have hw : IntKind.i64.wrap ((pre.length : Int) + 1) = (((pre ++ [c]).length : Nat) : Int) := by rw [wrap64 (by omega) (by omega)]; simp
      have ic : ∀ k : Go.AM.K β, iaK 1 (.lst 1 b (l.map encI)) (I pre.length) k = k (.ep (encI c) 0) := fun k => iaK_at pre.length rfl hci k
      have step := ih (pre ++ [c]) post (by simpa using hc) (by simpa using hn)
      simp only [f_loss_amount_b2, arithK_lss, hlt, decide_true, condK_bool, if_true, ic]
      rw [List.all_cons]
      by_cases q1 : c < 0
      · have : alcL c = false := by simp [alcL, win]; omega
        rw [this]; simp [encI, q1]
      · by_cases q2 : 10737418240000 < c
        · have : alcL c = false := by simp [alcL, win]; omega
          rw [this]; simp [encI, q1, q2]
        · have : alcL c = true := by simp [alcL, win]; omega
          rw [this, Bool.true_and, ← step]; simp [encI, q1, q2, hw]
theorem F_loss_amount_4 (a b c d : Int) (id : Nat) {h : Hp} (hid : h[id]? = some (.arr 1 [[I a], [I b], [I c], [I d]] true false)) : F_loss_amount [.sl 1 id 0 4 4 true] h = some (B (alcL a && (alcL b && (alcL c && alcL d))), h) := by
  refine F_loss_amount_own (a0 := .lst 1 false ([a, b, c, d].map encI)) (by simp [cvts, cvt, hid, okE, plain, encI]) (fun st => ?_)
  have L := loss_amount_L2 (P := Tryz.prog) (T := t_loss_amount) (D := d_loss_amount) (N := NN) (x0 := fun h => f_loss_amount_j1 Tryz.prog t_loss_amount d_loss_amount NN (fun v g => cvt st g v) h) (xr := fun w12_2 h => cvt st h w12_2) [a, b, c, d] false (by simp) [] NN [] [a, b, c, d] rfl (by have := NN_ge; simp; omega)
  refine Eq.trans ?_ (L.trans ?_)
  · simp [f_loss_amount]
  · have : [a, b, c, d].all alcL = (alcL a && (alcL b && (alcL c && alcL d))) := by simp
    rw [this]
    cases alcL a && (alcL b && (alcL c && alcL d)) <;> simp [f_loss_amount_j1]
theorem F_loss_split_val (e f a o : Int) (h1 : 0 ≤ e ∧ e ≤ 10737418240000) (h2 : 0 ≤ f ∧ f ≤ 10737418240000) (h3 : 0 ≤ a ∧ a ≤ 10737418240000) (h4 : 0 ≤ o ∧ o ≤ 10737418240000) (h : Hp) : F_loss_split [I e, I f, I a, I o] h = some (.agg (encO (lossL e f a o)), h) := by
  refine F_loss_split_run rfl ?_ h
  unfold lossL
  by_cases hc : e < f
  · have w : IntKind.i64.wrap (f - e) = f - e := wrap64 (by omega) (by omega)
    rw [if_pos hc]
    simp [f_loss_split, boxE, hc, w, buildK, fillA, stE, ap, encO]
  · have w : IntKind.i64.wrap (e - f) = e - f := wrap64 (by omega) (by omega)
    have w2 : IntKind.i64.wrap (e - f - min a (e - f)) = e - f - min a (e - f) := wrap64 (by omega) (by omega)
    have w3 : IntKind.i64.wrap (e - f - min a (e - f) - min o (e - f - min a (e - f))) = e - f - min a (e - f) - min o (e - f - min a (e - f)) := wrap64 (by omega) (by omega)
    rw [if_neg hc]
    simp [f_loss_split, boxE, hc, w, F_loss_split_1_raw, f_loss_split_1, w2, w3, buildK, fillA, stE, ap, encO]
theorem F_loss_Split_val (e f a o : Int) (h1 : 0 ≤ e ∧ e ≤ 10737418240000) (h2 : 0 ≤ f ∧ f ≤ 10737418240000) (h3 : 0 ≤ a ∧ a ≤ 10737418240000) (h4 : 0 ≤ o ∧ o ≤ 10737418240000) (h : Hp) : F_loss_Split [I e, I f, I a, I o] h = some (.tup [.agg (encO (lossL e f a o)), I 0], h) := by
  refine F_loss_Split_run rfl ?_ h
  have am := F_loss_amount_4 e f a o 1 (h := [.arr 4 [[I 0, I 0, I 0, I 0]] true false, .arr 1 [[I e], [I f], [I a], [I o]] true false]) rfl
  have hall : (alcL e && (alcL f && (alcL a && alcL o))) = true := by simp [alcL, win]; omega
  rw [hall] at am
  have fs := F_loss_split_val e f a o h1 h2 h3 h4
  simp only [encO] at fs ⊢
  simp [f_loss_Split, boxE, bsE, fillS, am, fs, stE, ap]
def zeroO : Los := ⟨0, 0, 0, 0⟩
noncomputable def claimS (l : List Leg) (t : List Allow) : Los × Int :=
  if okS l = false ∨ rightA t = false then (zeroO, 1) else if (runS l).1.endd = false then (zeroO, 11) else
    (lossL ((runS l).1.dep - (runS l).1.spl) (runS l).1.arr (allowedS t 9 ((runS l).1.dep - (runS l).1.spl) ((l.head?.map (·.day)).getD 0) ((l.getLast?.map (·.day)).getD 0)).1 0, 0)
theorem allowedS_bd {t : List Allow} {cls alc frm to : Int} (h : 0 ≤ alc) : 0 ≤ (allowedS t cls alc frm to).1 ∧ (allowedS t cls alc frm to).1 ≤ alc := by
  unfold allowedS
  split
  · exact ⟨Int.le_refl _, h⟩
  · rename_i hr
    split
    · exact ⟨Int.le_refl _, h⟩
    · rename_i hw
      split
      · exact ⟨Int.le_refl _, h⟩
      · have hr' : rightA t = true := by simpa using hr
        simp only [Bool.not_eq_false, Bool.and_eq_true, win, decide_eq_true_eq] at hw
        have hb := sumA_bd (rightA_ok hr').2.1 cls frm to (by omega)
        have : 0 ≤ alc * sumA t cls frm to / 1000000 := Int.ediv_nonneg (Int.mul_nonneg h hb.1) (by omega)
        dsimp only
        omega
theorem F_journey_Claim_val (l : List Leg) (t : List Allow) (b1 b2 : Bool) (hl : l.length < 1000000) (h : Hp) : F_journey_Claim [.lst 5 b1 (l.map encL), .lst 4 b2 (t.map encA)] h = some (.tup [.agg (encO (claimS l t).1), I (claimS l t).2], h) := by
  refine F_journey_Claim_run rfl ?_ h
  have fr := F_journey_Run_val l b1 hl
  have fc := F_season_Check_val t b2
  unfold claimS
  cases hr : okS l with
  | false =>
    obtain ⟨g1, g2⟩ := runS_err hr
    have g2' : ((runS l).2.2 == 0) = false := by simpa using g2
    simp only [tupR, g1, encJ, zeroJ] at fr
    rw [if_pos (.inl rfl)]
    simp [f_journey_Claim, boxE, stE, ap, fr, fc, g2', buildK, fillA, encO, zeroO]
  | true =>
    have hrun := okS_run hr
    have hinv := okL_inv l _ _ _ invZ (okS_ok hr).2
    rw [hrun] at fr ⊢
    simp only [tupR] at fr
    cases hc : rightA t with
    | false =>
      have g2' : ((checkA t).2 == 0) = false := by simpa [rightA] using hc
      rw [if_pos (.inr rfl)]
      simp only [encJ] at fr
      simp [f_journey_Claim, boxE, stE, ap, fr, fc, g2', buildK, fillA, encO, zeroO]
    | true =>
      have g2' : ((checkA t).2 == 0) = true := by simpa [rightA] using hc
      rw [if_neg (by simp)]
      cases he : (l.foldl actL zeroJ).endd with
      | false =>
        simp only [encJ, he] at fr
        simp [f_journey_Claim, boxE, stE, ap, fr, fc, g2', buildK, fillA, encO, zeroO]
      | true =>
        cases hll : l with
        | nil => rw [hll] at he; simp [zeroJ] at he
        | cons c tl =>
          rw [← hll]
          have hl0 : l.length ≠ 0 := by rw [hll]; simp
          have hc0 : l[0]? = some c := by rw [hll]; rfl
          have hhd : l.head? = some c := by rw [hll]; rfl
          obtain ⟨d, hd⟩ : ∃ d, l.getLast? = some d := by
            cases hx : l.getLast? with
            | none => rw [List.getLast?_eq_none_iff] at hx; rw [hx] at hll; simp at hll
            | some d => exact ⟨d, rfl⟩
          have hdi : l[l.length - 1]? = some d := by rw [← hd, List.getLast?_eq_getElem?]
          rw [hhd, hd]
          clear hll hhd hd
          obtain ⟨s1, s2, s3, s4, s5, s6, s7, s8⟩ := hinv
          have s7' := s7 he
          generalize l.foldl actL zeroJ = j at *
          obtain ⟨dep, spl, lost, arr, tra, frm, jto, halt, endd⟩ := j
          dsimp only at *
          subst he
          have w1 : IntKind.i64.wrap (dep - spl) = dep - spl := wrap64 (by omega) (by omega)
          have w2 : IntKind.i64.wrap ((l.length : Int) - 1) = (l.length : Int) - 1 := wrap64 (by omega) (by omega)
          have i0 : ∀ (k : Go.AM.K AV), iaK 5 (.lst 5 b1 (l.map encL)) (I 0) k = k (.ep (encL c) 0) := fun k => iaK_at 0 rfl hc0 k
          have i1 : ∀ (k : Go.AM.K AV), iaK 5 (.lst 5 b1 (l.map encL)) (I ((l.length : Int) - 1)) k = k (.ep (encL d) 0) := fun k => iaK_at (l.length - 1) (by omega) hdi k
          have ln : ∀ k : Go.AM.K AV, lenK (.lst 5 b1 (l.map encL)) k = k (I l.length) := fun k => by simp
          have fa := F_season_Allowed_val t b2 9 (dep - spl) c.day d.day
          have ab := allowedS_bd (t := t) (cls := 9) (frm := c.day) (to := d.day) (show 0 ≤ dep - spl by omega)
          simp only [Option.map_some, Option.getD_some]
          generalize (allowedS t 9 (dep - spl) c.day d.day).1 = n at *
          generalize (allowedS t 9 (dep - spl) c.day d.day).2 = er at *
          have fl := F_loss_Split_val (dep - spl) arr n 0 (by omega) (by omega) (by omega) (by omega)
          simp only [encL] at i0 i1
          simp only [encJ] at fr
          simp only [encO] at fl ⊢
          generalize l.map encL = L at *
          generalize (l.length : Int) = m at *
          simp [f_journey_Claim, boxE, stE, ap, fr, fc, g2', w1, w2, i0, i1, ln, fa, fl]
end Go.AM


namespace Go.AM
open Go.RowKit
set_option linter.unusedVariables false
def mu0 (w : World) : Mu := ⟨fun _ => .virt none, w, fun k => k < w.heap.size⟩
theorem rel0 (w : World) : Rel (mu0 w) [] w where
  obj := fun id o h => by simp at h
  sep := fun i j o p b x c y d h => by simp at h
  apart := fun i sz es nil b x c h => by simp at h
  imm := fun k hk => ⟨hk, rfl, fun ⟨id, o, off, c, h, _⟩ => by simp at h⟩
theorem own0 (w : World) (b : Nat) : ¬ Own (mu0 w) [] b := fun ⟨id, o, off, c, h, _⟩ => by simp at h
theorem below0 {w w' : World} {μ' : Mu} {h' : Hp} (s : Step (mu0 w) [] w μ' h' w') : Below w.heap.size w w' :=
  ⟨s.frame.os, s.frame.tape, s.frame.output, s.frame.size, fun k hk => s.frame.block k hk (own0 w k)⟩
theorem row_calls {P : Program} {f : FuncId} {F : Fun} {args : List AV} {h' : Hp} {b : Bool} {W : World} {cargs : Array Value} (hc : CSound P f F) (hF : F args [] = some (.s (.bool b), h')) (hv : VRs (mu0 W) [] args cargs.toList) :
    Calls P f cargs W fun e W' => e = .returned (.bool b) ∧ Below W.heap.size W W' := by
  refine (hc args [] _ h' hF (mu0 W) W cargs (rel0 W) hv).2.mono fun e W' => ?_
  rintro ⟨cv, μ', rfl, s, hr⟩
  simp only [VR] at hr
  exact ⟨by rw [hr.2], below0 s⟩

inductive Ty where
  | int (k : IntKind)
  | bool
  | str
  | sl (e : List Ty)
def tyFs (f : TypeId → Option (List Ty)) (size : TypeId → Nat) : List Field → Nat → Option (List Ty)
  | [], _ => some []
  | x :: l, pos => match f x.type, tyFs f size l (pos + size x.type) with
    | some a, some b => if x.offset = pos ∧ a.length = size x.type then some (a ++ b) else none
    | _, _ => none
def tyOf (P : Program) : Nat → TypeId → Option (List Ty)
  | 0, _ => none
  | n + 1, t => match P.underlying t with
    | some .bool => some [.bool]
    | some (.int k) => some [.int k]
    | some .string => some [.str]
    | some (.slice e) => match tyOf P n e with
      | some l => if l.length = P.cellsOf e ∧ 0 < l.length then some [.sl l] else none
      | none => none
    | some (.struct fs) => match tyFs (tyOf P n) P.cellsOf fs.toList 0 with
      | some l => if l.length = P.cellsOf t then some l else none
      | none => none
    | some (.array m e) => match tyOf P n e with
      | some l => if l.length = P.cellsOf e ∧ m * P.cellsOf e = P.cellsOf t then some (List.replicate m l).flatten else none
      | none => none
    | _ => none
mutual
def HasT : Ty → AV → Prop
  | .int k, a => ∃ n, a = .s (.int k n) ∧ (Lit.int k n).wf = true
  | .bool, a => ∃ b, a = .s (.bool b)
  | .str, a => ∃ s : ByteArray, a = .s (.string s) ∧ s.size ≤ maxLen
  | .sl ts, a => ∃ nil es, a = .lst ts.length nil es ∧ (nil = true → es = []) ∧ es.length ≤ maxLen ∧ ∀ e ∈ es, HasTs ts e
def HasTs : List Ty → List AV → Prop
  | [], asl => asl = []
  | t :: ts, asl => ∃ a as', asl = a :: as' ∧ HasT t a ∧ HasTs ts as'
end
theorem HasTs.app : ∀ {ts us : List Ty} {asl bs : List AV}, HasTs ts asl → HasTs us bs → HasTs (ts ++ us) (asl ++ bs)
  | [], us, asl, bs, h, k => by simp only [HasTs] at h; subst h; exact k
  | t :: ts, us, asl, bs, h, k => by
    simp only [HasTs] at h
    obtain ⟨a, as', rfl, h1, h2⟩ := h
    simp only [List.cons_append, HasTs]
    exact ⟨a, _, rfl, h1, HasTs.app h2 k⟩
theorem HasTs.len : ∀ {ts : List Ty} {asl : List AV}, HasTs ts asl → asl.length = ts.length
  | [], asl, h => by simp only [HasTs] at h; subst h; rfl
  | t :: ts, asl, h => by
    simp only [HasTs] at h
    obtain ⟨a, as', rfl, h1, h2⟩ := h
    simp [HasTs.len h2]
theorem HasT.ok : ∀ {t : Ty} {a : AV}, HasT t a → okC a = true
  | .int k, a, h => by simp only [HasT] at h; obtain ⟨n, rfl, _⟩ := h; rfl
  | .bool, a, h => by simp only [HasT] at h; obtain ⟨n, rfl⟩ := h; rfl
  | .str, a, h => by simp only [HasT] at h; obtain ⟨n, rfl, _⟩ := h; rfl
  | .sl ts, a, h => by simp only [HasT] at h; obtain ⟨n, es, rfl, _⟩ := h; rfl
theorem HasTs.ok : ∀ {ts : List Ty} {asl : List AV}, HasTs ts asl → ∀ x ∈ asl, okC x = true
  | [], asl, h, x, hx => by simp only [HasTs] at h; subst h; simp at hx
  | t :: ts, asl, h, x, hx => by
    simp only [HasTs] at h
    obtain ⟨a, as', rfl, h1, h2⟩ := h
    rcases List.mem_cons.1 hx with rfl | hx
    · exact h1.ok
    · exact h2.ok x hx
theorem VRs_app' {μ : Mu} {h : Hp} : ∀ {asl bs : List AV} {cs ds : List Value}, VRs μ h asl cs → VRs μ h bs ds → VRs μ h (asl ++ bs) (cs ++ ds)
  | [], bs, cs, ds, h1, h2 => by simp only [VRs] at h1; subst h1; exact h2
  | a :: asl, bs, cs, ds, h1, h2 => by
    simp only [VRs] at h1
    obtain ⟨v, vs, rfl, h3, h4⟩ := h1
    simp only [List.cons_append, VRs]
    exact ⟨v, _, rfl, h3, VRs_app' h4 h2⟩
section
variable {H : Type} {enc : TypeId × Value → H} {P : Program} {w : World} {base : Nat} {spare : Nat → Bool} {held : Bool}
def Opened (w : World) (ts : List Ty) (cs : List Value) : Prop := ∃ asl, HasTs ts asl ∧ VRs (mu0 w) [] asl cs ∧ ∀ u ∈ cs, u.oneCell' = true
theorem open_one {t : Ty} {u : Value} {a : AV} (h1 : HasT t a) (h2 : VR (mu0 w) [] a u) (h3 : u.oneCell' = true) : Opened w [t] [u] :=
  ⟨[a], by simp only [HasTs]; exact ⟨a, [], rfl, h1, rfl⟩, by simp only [VRs]; exact ⟨u, [], rfl, h2, rfl⟩, by simpa using h3⟩
theorem open_fs {f : TypeId → Option (List Ty)} {g : TypeId → List Value → Prop} {cs : List Value} (hg : ∀ t ts cs', f t = some ts → g t cs' → Opened w ts cs') : ∀ (l : List Field) (pos : Nat) (ts : List Ty), tyFs f P.cellsOf l pos = some ts →
    (∀ x ∈ l, g x.type ((cs.drop x.offset).take (P.cellsOf x.type))) → Opened w ts ((cs.drop pos).take ts.length)
  | [], pos, ts, h, _ => by
    simp only [tyFs, Option.some.injEq] at h
    subst h
    exact ⟨[], rfl, rfl, by simp⟩
  | x :: l, pos, ts, h, hx => by
    simp only [tyFs] at h
    split at h
    · rename_i a b h1 h2
      split at h
      · rename_i hc
        simp only [Option.some.injEq] at h
        subst h
        obtain ⟨h3, h4⟩ := hc
        obtain ⟨asl, p1, p2, p3⟩ := hg _ _ _ h1 (hx x (by simp))
        obtain ⟨bs, q1, q2, q3⟩ := open_fs hg l _ b h2 (fun y hy => hx y (by simp [hy]))
        have e : (cs.drop pos).take (a ++ b).length = (cs.drop x.offset).take (P.cellsOf x.type) ++ (cs.drop (pos + P.cellsOf x.type)).take b.length := by
          rw [List.length_append, h4, h3, ← List.drop_drop, List.take_add]
        rw [e]
        refine ⟨asl ++ bs, p1.app q1, VRs_app' p2 q2, ?_⟩
        intro u hu
        rcases List.mem_append.1 hu with hu | hu
        · exact p3 u hu
        · exact q3 u hu
      · simp at h
    · simp at h
theorem open_arr {ts : List Ty} {sz : Nat} {cs : List Value} : ∀ (n i0 : Nat), (∀ i, i < n → Opened w ts ((cs.drop ((i0 + i) * sz)).take sz)) → Opened w (List.replicate n ts).flatten ((cs.drop (i0 * sz)).take (n * sz))
  | 0, i0, _ => ⟨[], rfl, by simp [VRs], by simp⟩
  | n + 1, i0, h => by
    obtain ⟨asl, p1, p2, p3⟩ := h 0 (by omega)
    obtain ⟨bs, q1, q2, q3⟩ := open_arr n (i0 + 1) (fun i hi => by have := h (i + 1) (by omega); rwa [show i0 + (i + 1) = i0 + 1 + i by omega] at this)
    have e : (cs.drop (i0 * sz)).take ((n + 1) * sz) = (cs.drop (i0 * sz)).take sz ++ (cs.drop ((i0 + 1) * sz)).take (n * sz) := by
      rw [show (n + 1) * sz = sz + n * sz by rw [Nat.add_mul]; omega, show (i0 + 1) * sz = i0 * sz + sz by rw [Nat.add_mul]; omega, ← List.drop_drop, List.take_add]
    rw [e, List.replicate_succ, List.flatten_cons]
    refine ⟨asl ++ bs, p1.app q1, VRs_app' p2 q2, ?_⟩
    intro u hu
    rcases List.mem_append.1 hu with hu | hu
    · exact p3 u hu
    · exact q3 u hu
theorem open_es {ts : List Ty} {sz b : Nat} (hts : ts.length = sz) : ∀ (n o : Nat), (∀ i, i < n → ∃ cs, Opened w ts cs ∧ cs.length = sz ∧ ∀ j u, cs[j]? = some u → w.cell? ⟨b, o + i * sz + j, none⟩ = some u) →
    ∃ es vs, es.length = n ∧ (∀ e ∈ es, HasTs ts e) ∧ VRf (mu0 w) [] es vs ∧ ∀ j u, vs[j]? = some u → w.cell? ⟨b, o + j, none⟩ = some u ∧ u.oneCell' = true
  | 0, o, h => ⟨[], [], rfl, by simp, rfl, by simp⟩
  | n + 1, o, h => by
    obtain ⟨cs, ⟨asl, h1, h2, h3⟩, h4, h5⟩ := h 0 (by omega)
    obtain ⟨es, vs, k1, k2, k3, k4⟩ := open_es hts n (o + sz) (fun i hi => by
      obtain ⟨cs', q1, q2, q3⟩ := h (i + 1) (by omega)
      refine ⟨cs', q1, q2, fun j u hu => ?_⟩
      rw [← q3 j u hu]
      congr 2
      rw [Nat.add_mul]; omega)
    refine ⟨asl :: es, cs ++ vs, by simp [k1], ?_, ?_, ?_⟩
    · intro e he
      rcases List.mem_cons.1 he with rfl | he
      · exact h1
      · exact k2 e he
    · simp only [VRf]; exact ⟨cs, vs, rfl, h2, k3⟩
    · intro j u hj
      by_cases hlt : j < cs.length
      · rw [List.getElem?_append_left hlt] at hj
        have := h5 j u hj
        exact ⟨by simpa using this, h3 u (List.mem_of_getElem? hj)⟩
      · rw [List.getElem?_append_right (by omega)] at hj
        have := k4 _ _ hj
        rw [show o + sz + (j - cs.length) = o + j by omega] at this
        exact this
theorem cell_lt {a : Addr} {v : Value} (h : w.cell? a = some v) : a.block < w.heap.size := by
  rcases Nat.lt_or_ge a.block w.heap.size with h1 | h1
  · exact h1
  · have : w.heap[a.block]? = none := by simpa using h1
    simp [World.cell?, this] at h
theorem open_cells : ∀ (fuel n : Nat) (t : TypeId) (ts : List Ty) (cs : List Value) (x : DataW H × List MemPlace), tyOf P n t = some ts → DataW.trod enc P w base spare held fuel t cs = some x → Opened w ts cs
  | 0, n, t, ts, cs, x, _, h => by simp [DataW.trod] at h
  | fuel + 1, 0, t, ts, cs, x, h0, _ => by simp [tyOf] at h0
  | fuel + 1, n + 1, t, ts, cs, x, h0, h => by
    unfold tyOf at h0
    cases hu : P.underlying t with
    | none => rw [hu] at h0; simp at h0
    | some T =>
      rw [hu] at h0
      cases T with
      | bool =>
        simp only [Option.some.injEq] at h0
        subst h0
        obtain ⟨b, rfl, _⟩ := DataW.trod_bool hu h
        exact open_one (a := .s (.bool b)) (by simp [HasT]) (by simp [VR, gv]) rfl
      | int k =>
        simp only [Option.some.injEq] at h0
        subst h0
        obtain ⟨m, rfl, _, hw⟩ := DataW.trod_int hu h
        exact open_one (a := .s (.int k m)) (by simp [HasT, hw]) (by simp [VR, gv]) rfl
      | string =>
        simp only [Option.some.injEq] at h0
        subst h0
        obtain ⟨s, rfl, _, hs⟩ := DataW.trod_string hu h
        exact open_one (a := .s (.string s)) (by simp [HasT, hs]) (by simp [VR, gv]) rfl
      | slice e =>
        simp only at h0
        cases he : tyOf P n e with
        | none => rw [he] at h0; simp at h0
        | some l =>
          rw [he] at h0
          simp only at h0
          split at h0
          · rename_i hl
            simp only [Option.some.injEq] at h0
            subst h0
            rcases DataW.trod_slice hu h with ⟨rfl, _⟩ | ⟨a, len, cap, elems, rest, m, hm, rfl, _, hb, h1, h2, h3, h4, _, _⟩
            · refine open_one (a := .lst l.length true []) ?_ ?_ rfl
              · simp only [HasT]; exact ⟨true, [], rfl, fun _ => rfl, by simp, by simp⟩
              · simp only [VR]
                exact ⟨none, 0, rfl, by simp, by simp, rfl, fun _ => rfl, by simp, by simp⟩
            · have hm' : m = fuel := by omega
              subst hm'
              have cell : ∀ i, i < len → ∃ cs, Opened w l cs ∧ cs.length = P.cellsOf e ∧ ∀ j, j < P.cellsOf e → w.cell? ((a.add (i * P.cellsOf e)).add j) = cs[j]? := by
                intro i hi
                have hi' := h4 i hi
                rw [List.getElem?_eq_getElem (by omega), Option.bind_eq_some_iff] at hi'
                obtain ⟨cs, q1, q2⟩ := hi'
                have q3 := World.cells?_some q1
                exact ⟨cs, open_cells m n e l cs _ he q2, q3.2.1, q3.2.2⟩
              obtain ⟨b, off, spot⟩ := a
              have hsp : len ≠ 0 → spot = none := fun hn => by
                obtain ⟨cs, _, q2, q3⟩ := cell 0 (by omega)
                have q4 := q3 0 (by omega)
                rw [List.getElem?_eq_getElem (by omega)] at q4
                simpa [Addr.add] using World.cell?_spot q4
              by_cases hn : len = 0
              · subst hn
                refine open_one (a := .lst l.length false []) ?_ ?_ rfl
                · simp only [HasT]; exact ⟨false, [], rfl, fun _ => rfl, by simp, by simp⟩
                · simp only [VR]
                  exact ⟨_, cap, rfl, by simp, h2, rfl, by simp, by simp, by simp⟩
              · have hs := hsp hn
                subst hs
                obtain ⟨es, vs, k1, k2, k3, k4⟩ := open_es (w := w) (ts := l) (sz := P.cellsOf e) (b := b) hl.1 len off (fun i hi => by
                  obtain ⟨cs, q1, q2, q3⟩ := cell i hi
                  refine ⟨cs, q1, q2, fun j u hj => ?_⟩
                  have hjl := (List.getElem?_eq_some_iff.1 hj).1
                  have := q3 j (by omega)
                  rw [hj] at this
                  rw [← this, Go.WideShapes.add_plain, Go.WideShapes.add_plain])
                refine open_one (a := .lst l.length false es) ?_ ?_ rfl
                · simp only [HasT]; exact ⟨false, es, rfl, by simp, by omega, k2⟩
                · simp only [VR]
                  refine ⟨_, cap, by rw [k1], by omega, h2, rfl, by simp, fun e' he' => ⟨(k2 e' he').len, (k2 e' he').ok⟩, fun _ => ⟨b, off, vs, rfl, ?_, k3, k4⟩⟩
                  obtain ⟨cs, q1, q2, q3⟩ := cell 0 (by omega)
                  have q4 := q3 0 (by omega)
                  rw [List.getElem?_eq_getElem (by omega)] at q4
                  show b < w.heap.size
                  rw [Go.WideShapes.add_plain, Go.WideShapes.add_plain] at q4
                  exact cell_lt q4
          · simp at h0
      | struct fs =>
        simp only at h0
        cases he : tyFs (tyOf P n) P.cellsOf fs.toList 0 with
        | none => rw [he] at h0; simp at h0
        | some l =>
          rw [he] at h0
          simp only at h0
          split at h0
          · rename_i hl
            simp only [Option.some.injEq] at h0
            subst h0
            obtain ⟨xs, m, hm, _, h2, h3, h4⟩ := DataW.trod_struct hu h
            have hm' : m = fuel := by omega
            subst hm'
            have := open_fs (w := w) (P := P) (f := tyOf P n) (g := fun t cs' => ∃ y, DataW.trod enc P w base spare held m t cs' = some y) (cs := cs) (fun t ts cs' q1 ⟨y, q2⟩ => open_cells m n t ts cs' y q1 q2) fs.toList 0 l he (fun y hy => by
              obtain ⟨i, hi⟩ := List.getElem?_of_mem hy
              have hi2 : fs[i]? = some y := by simpa using hi
              have := h4 i y hi2
              have hlt : i < xs.length := by rw [h3]; exact (Array.getElem?_eq_some_iff.1 hi2).1
              rw [List.getElem?_eq_getElem hlt] at this
              exact ⟨_, this⟩)
            rw [List.drop_zero, hl, ← h2, List.take_length] at this
            exact this
          · simp at h0
      | array k e =>
        simp only at h0
        cases he : tyOf P n e with
        | none => rw [he] at h0; simp at h0
        | some l =>
          rw [he] at h0
          simp only at h0
          split at h0
          · rename_i hl
            simp only [Option.some.injEq] at h0
            subst h0
            obtain ⟨xs, m, hm, _, h2, h3, h4⟩ := DataW.trod_array hu h
            have hm' : m = fuel := by omega
            subst hm'
            have := open_arr (w := w) (ts := l) (sz := P.cellsOf e) (cs := cs) k 0 (fun i hi => by
              have h5 := h4 i hi
              rw [List.getElem?_eq_getElem (by omega)] at h5
              have h6 := open_cells m n e l _ _ he h5
              rwa [Nat.zero_add])
            rw [Nat.zero_mul, List.drop_zero, hl.2, ← h2, List.take_length] at this
            exact this
          · simp at h0
      | _ => simp at h0
theorem open_array {t : TypeId} {m : Nat} {e : TypeId} {r : Reach} {b : Nat} {v : Value} {d : DataW H} {ps : List MemPlace} {n : Nat} {ts : List Ty} (hu : P.underlying t = some (.array m e)) (ht : tyOf P n t = some ts) (hval : Value.okWide P w r b t v)
    (hd : DataW.Trod enc P w base spare held t v d ps) : ∃ asl, HasTs ts asl ∧ VR (mu0 w) [] (.agg asl) v := by
  have : ∃ cs, v = .agg cs := by
    simp only [Value.okWide, hu] at hval
    obtain ⟨cs, h1, _⟩ := hval
    exact ⟨cs, h1⟩
  obtain ⟨cs, rfl⟩ := this
  obtain ⟨fuel, hf⟩ := hd
  obtain ⟨asl, h1, h2, _⟩ := open_cells fuel n t ts _ _ ht hf
  exact ⟨asl, h1, by simp only [VR]; exact ⟨cs, rfl, h2⟩⟩
theorem open_cell {t : TypeId} {v : Value} {d : DataW H} {ps : List MemPlace} {n : Nat} {ty : Ty} (hv : v.cells = #[v]) (ht : tyOf P n t = some [ty]) (hd : DataW.Trod enc P w base spare held t v d ps) : ∃ a, HasT ty a ∧ VR (mu0 w) [] a v := by
  obtain ⟨fuel, hf⟩ := hd
  rw [hv] at hf
  obtain ⟨asl, h1, h2, _⟩ := open_cells fuel n t [ty] _ _ ht hf
  simp only [HasTs] at h1
  obtain ⟨a, as', rfl, h1, rfl⟩ := h1
  simp only [VRs] at h2
  obtain ⟨v', vs', h3, h4, _⟩ := h2
  simp at h3
  exact ⟨a, h1, by rw [h3.1]; exact h4⟩
end
theorem has_list {α : Type} {ts : List Ty} {f : α → List AV} (hf : ∀ cs, HasTs ts cs → ∃ x, cs = f x) {a : AV} (h : HasT (.sl ts) a) : ∃ (l : List α) (b : Bool), a = .lst ts.length (b && l.isEmpty) (l.map f) := by
  simp only [HasT] at h
  obtain ⟨nil, es, rfl, hn, hm, he⟩ := h
  have : ∃ l : List α, es = l.map f := by
    clear hn hm
    induction es with
    | nil => exact ⟨[], rfl⟩
    | cons e es ih =>
      obtain ⟨x, hx⟩ := hf e (he e (by simp))
      obtain ⟨l, hl⟩ := ih (fun e' h' => he e' (by simp [h']))
      exact ⟨x :: l, by simp [hx, hl]⟩
  obtain ⟨l, rfl⟩ := this
  refine ⟨l, nil, ?_⟩
  cases nil with
  | false => rfl
  | true =>
    have : l = [] := by simpa using hn rfl
    subst this; rfl
end Go.AM


namespace Go.AM
open Go.Proofs
set_option linter.unusedVariables false
set_option linter.unusedSimpArgs false
set_option linter.constructorNameAsVariable false
set_option maxRecDepth 20000
abbrev NL := Bool × List Leg
abbrev encN (p : NL) : List AV := [.lst 5 p.1 (p.2.map encL)]
section
variable {β : Type} {P : Program} {T : Tab} {D : DTab} {N : Nat} {K : AV → Hp → Option β}
theorem IndexFunc_Leg_L2 {x0 : Hp → Option β} {xr : AV → Hp → Option β} {l : List NL} {b : Bool} {fv : AV} {h : Hp} {p : NL → Bool} (hl : l.length < 4611686018427387904) (hp : ∀ x ∈ l, ∀ k : AV → Hp → Option β, callVK T fv [.lst 5 x.1 (x.2.map encL)] h k = k (B (p x)) h) :
    ∀ (n i : Nat), i ≤ l.length → l.length < i + n → f_slices_IndexFunc_Leg_L2 P T D N x0 xr n (.lst 1 b (l.map encN)) fv (I l.length) (I i) h = match (l.drop i).findIdx? p with | some j => xr (I ((i + j : Nat) : Int)) h | none => x0 h := by
  intro n
  induction n with
  | zero => intro i h1 h2; omega
  | succ n ih =>
    intro i h1 h2
    show f_slices_IndexFunc_Leg_b2 P T D N (f_slices_IndexFunc_Leg_L2 P T D N x0 xr n) x0 xr _ _ _ _ h = _
    unfold f_slices_IndexFunc_Leg_b2
    rcases Nat.lt_or_ge i l.length with hi | hi
    · have hx : l[i]? = some l[i] := List.getElem?_eq_getElem hi
      have hlt : ((i : Int) < (l.length : Int)) := by omega
      have hw : IntKind.i64.wrap ((i : Int) + 1) = ((i + 1 : Nat) : Int) := by rw [wrap64 (by omega) (by omega)]; omega
      have hpx := hp l[i] (List.getElem_mem hi)
      rw [List.drop_eq_getElem_cons hi, List.findIdx?_cons]
      simp [hlt, hx, hw, encN] at hpx ⊢
      rw [hpx]
      cases hc : p l[i] with
      | true => simp
      | false =>
        have h3 := ih (i + 1) hi (by omega)
        rw [show ((i : Int) + 1) = ((i + 1 : Nat) : Int) by omega]
        simp only [Bool.false_eq_true, if_false]
        refine h3.trans ?_
        cases (List.drop (i + 1) l).findIdx? p with
        | none => rfl
        | some j =>
          show xr (I ((i + 1 + j : Nat) : Int)) h = xr (I ((i + (j + 1) : Nat) : Int)) h
          rw [show i + 1 + j = i + (j + 1) by omega]
    · have : i = l.length := by omega
      subst this
      simp
theorem IndexFunc_Leg_K {l : List NL} {b : Bool} {fv : AV} {h : Hp} {p : NL → Bool} {K : AV → Hp → Option β} (hl : l.length < N) (hN : N < 4611686018427387904) (hp : ∀ x ∈ l, ∀ k : AV → Hp → Option β, callVK T fv [.lst 5 x.1 (x.2.map encL)] h k = k (B (p x)) h) :
    f_slices_IndexFunc_Leg P T D N K (.lst 1 b (l.map encN)) fv h = K (I (match l.findIdx? p with | some j => (j : Int) | none => -1)) h := by
  unfold f_slices_IndexFunc_Leg
  simp only [lenK_lst, List.length_map]
  have := IndexFunc_Leg_L2 (P := P) (D := D) (N := N) (b := b) (x0 := fun h => f_slices_IndexFunc_Leg_j1 P T D N K h) (xr := fun a h => K a h) (by omega) hp N 0 (Nat.zero_le _) (by omega)
  simp only [List.drop_zero] at this
  refine this.trans ?_
  cases l.findIdx? p with
  | none => rfl
  | some j => simp
end
theorem F_journey_Transit_1_val (l : List Leg) (b : Bool) (hl : l.length < 1000000) (h : Hp) : F_journey_Transit_1 [.lst 5 b (l.map encL)] h = some (B (!okS l), h) := F_journey_Transit_1_run rfl (by simp [f_journey_Transit_1, F_journey_right_val l b hl]) h
theorem F_Contains_right (ls : List NL) (hl : ls.length < 1000) (hb : ∀ p ∈ ls, p.2.length < 1000000) (b : Bool) (h : Hp) : F_slices_ContainsFunc_Leg__journey_Transit_1 [.lst 1 b (ls.map encN), .fn 39 []] h = some (B (ls.any fun p => !okS p.2), h) := by
  have e : ∀ h, F_slices_IndexFunc_Leg__journey_Transit_1 [.lst 1 b (ls.map encN), .fn 39 []] h = some (I (match ls.findIdx? (fun p => !okS p.2) with | some j => (j : Int) | none => -1), h) :=
    F_slices_IndexFunc_Leg__journey_Transit_1_run rfl (by
      simp only [nrm, nrmC]
      rw [IndexFunc_Leg_K (p := fun p => !okS p.2) (by have := NN_ge; omega) NN_lt (fun x hx k => by simp [F_journey_Transit_1_val x.2 x.1 (hb x hx)])]
      rfl)
  refine F_slices_ContainsFunc_Leg__journey_Transit_1_run rfl ?_ h
  simp only [nrm, nrmC, f_slices_ContainsFunc_Leg, t_slices_ContainsFunc_Leg__journey_Transit_1_78, callK_F, e]
  have : (ls.any fun p => !okS p.2) = (ls.findIdx? (fun p => !okS p.2)).isSome := by rw [List.findIdx?_isSome]
  rw [this]
  cases ls.findIdx? (fun p => !okS p.2) <;> simp
def sumT (day : Int) : List NL → Int
  | [] => 0
  | p :: ls => (atL p.2 day).tra + sumT day ls
theorem tra_bd {l : List Leg} (h : okS l = true) (day : Int) : 0 ≤ (atL l day).tra ∧ (atL l day).tra ≤ 10737418240000 := by
  obtain ⟨s1, s2, s3, s4, s5, s6, s7, s8⟩ := at_inv h day
  omega
theorem Transit_L2 {β : Type} {N : Nat} {D : DTab} {x0 : AV → Hp → Option β} (ls : List NL) (b : Bool) (day : Int) (hl : ls.length < 1000) (hb : ∀ p ∈ ls, p.2.length < 1000000) (hok : ∀ p ∈ ls, okS p.2 = true) (h : Hp) : ∀ (n : Nat) (pre post : List NL) (acc : Int), ls = pre ++ post → post.length < n → 0 ≤ acc ∧ acc ≤ 10737418240000 * pre.length →
    f_journey_Transit_L2 Tryz.prog t_journey_Transit D N x0 n (I day) (I acc) (.lst 1 b (ls.map encN)) (I ls.length) (I pre.length) h = x0 (I (acc + sumT day post)) h := by
  intro n
  induction n with
  | zero => intro pre post acc _ h2; omega
  | succ n ih =>
    intro pre post acc hc hn ha
    show f_journey_Transit_b2 Tryz.prog t_journey_Transit D N (f_journey_Transit_L2 Tryz.prog t_journey_Transit D N x0 n) x0 _ _ _ _ _ h = _
    cases post with
    | nil =>
      have : ls = pre := by simpa using hc
      subst this
      simp [f_journey_Transit_b2, sumT]
    | cons c post =>
      have hi : pre.length < ls.length := by rw [hc]; simp
      have hci : ls[pre.length]? = some c := by rw [hc]; simp
      have hcm : c ∈ ls := by rw [hc]; simp
      have hlt : ((pre.length : Int) < (ls.length : Int)) := by omega
      have hw : IntKind.i64.wrap ((pre.length : Int) + 1) = (((pre ++ [c]).length : Nat) : Int) := by rw [wrap64 (by omega) (by omega)]; simp
      have ic : ∀ k : Go.AM.K β, iaK 1 (.lst 1 b (ls.map encN)) (I pre.length) k = k (.ep (encN c) 0) := fun k => iaK_at pre.length rfl hci k
      have fa := F_journey_at_val c.2 c.1 day (hok c hcm) (hb c hcm)
      have tb := tra_bd (hok c hcm) day
      have w1 : IntKind.i64.wrap (acc + (atL c.2 day).tra) = acc + (atL c.2 day).tra := wrap64 (by omega) (by omega)
      have step := ih (pre ++ [c]) post (acc + (atL c.2 day).tra) (by simpa using hc) (by simpa using hn) (by simp; omega)
      rw [sumT, ← Int.add_assoc, ← step]
      simp only [f_journey_Transit_b2, arithK_lss, hlt, decide_true, condK_bool, if_true, ic]
      have ldc : ∀ k : Go.AM.K β, ldK 1 false (.ep (encN c) 0) h k = k (.lst 5 c.1 (c.2.map encL)) := fun k => by simp
      have f4 : ∀ k : Go.AM.K β, fldK 1 false 4 (.agg (encJ (atL c.2 day))) k = k (I (atL c.2 day).tra) := fun k => rfl
      rw [ldc, t_journey_Transit_40, callK_F, fa]
      simp only [f4, arithK_add, w1, hw]
def transS (ls : List NL) (day : Int) : Int × Int :=
  if 16 < ls.length then (0, 8) else if (ls.any fun p => !okS p.2) = true then (0, 1) else if win day 0 100000 = false then (0, 2) else (sumT day ls, 0)
theorem Transit_run (ls : List NL) (b : Bool) (day : Int) (hl : ls.length < 1000) (hb : ∀ p ∈ ls, p.2.length < 1000000) (st : Bool) : f_journey_Transit Tryz.prog t_journey_Transit d_journey_Transit NN (fun v g => cvt st g v) (.lst 1 b (ls.map encN)) (I day) [] = some (.tup [I (transS ls day).1, I (transS ls day).2]) := by
  unfold transS
  have fc := F_Contains_right ls hl hb b
  have ln : ∀ k : Go.AM.K AV, lenK (.lst 1 b (ls.map encN)) k = k (I ls.length) := fun k => by simp
  by_cases h1 : 16 < ls.length
  · have h1' : (16 : Int) < (ls.length : Int) := by omega
    rw [if_pos h1]
    simp only [f_journey_Transit, ln]
    simp [h1']
  · have h1' : ¬ (16 : Int) < (ls.length : Int) := by omega
    rw [if_neg h1]
    cases h2 : (ls.any fun p => !okS p.2) with
    | true =>
      rw [h2] at fc
      simp only [f_journey_Transit, ln]
      generalize ls.map encN = L at *
      simp [h1', fc]
    | false =>
      rw [h2] at fc
      have hok : ∀ p ∈ ls, okS p.2 = true := by simpa using h2
      cases h3 : win day 0 100000
      · simp only [f_journey_Transit, ln]
        generalize ls.map encN = L at *
        simp [h1', fc, F_journey_in_val, h3]
      · have L := Transit_L2 (N := NN) (D := d_journey_Transit) (x0 := fun w17_6 h => f_journey_Transit_j1 Tryz.prog t_journey_Transit d_journey_Transit NN (fun v g => cvt st g v) w17_6 h) ls b day hl hb hok [] NN [] ls 0 rfl (by have := NN_ge; omega) (by simp)
        simp only [f_journey_Transit, ln]
        generalize ls.map encN = LL at *
        simp [h1', fc, F_journey_in_val, h3]
        refine L.trans ?_
        simp [f_journey_Transit_j1]
end Go.AM


namespace Go.AM
open Go.Proofs
set_option linter.unusedVariables false
set_option linter.unusedSimpArgs false
set_option linter.constructorNameAsVariable false
set_option maxRecDepth 20000
section
variable {β : Type} {P : Program} {T : Tab} {D : DTab} {N : Nat} {K : AV → Hp → Option β}
abbrev SL {α : Type} (sz : Nat) (f : α → List AV) (b : Bool) (l : List α) : AV := .lst sz (b && l.isEmpty) (l.map f)
theorem F_slices_Clone_Leg_val (l : List Leg) (b : Bool) (hl : l.length < 1000000) (h : Hp) : F_slices_Clone_Leg [SL 5 encL b l] h = some (SL 5 encL b l, h) := by
  refine (F_slices_Clone_Leg_run (v := if b && l.isEmpty then nilS else SL 5 encL b l) rfl ?_ h).trans ?_
  · by_cases hb : (b && l.isEmpty) = true
    · simp [f_slices_Clone_Leg, hb]
    · have hb' : (b && l.isEmpty) = false := by simpa using hb
      have hle : l.length * 40 ≤ 140737488355328 := by omega
      have h2 : ((l.map encL).all fun e => e.length == 5) = true := by simp [encL]
      have h3 : okE false (l.map encL) = true := okE_map (by intro x; simp [encL])
      simp [f_slices_Clone_Leg, hb', bsE, fillS, appE, readSl, hle, h2, ap]
      rw [cvt_whole rfl (by simp) (by simp) h3, SL, hb']
  · by_cases hb : (b && l.isEmpty) = true
    · obtain ⟨rfl, hl0⟩ := Bool.and_eq_true_iff.1 hb
      have : l = [] := by simpa using hl0
      subst this
      rfl
    · rw [if_neg hb]
      rfl
end
abbrev exL : List Leg := [⟨10, 1, 1, 2, 1000⟩, ⟨12, 2, 5, 0, 0⟩, ⟨15, 3, 0, 0, 0⟩, ⟨16, 4, 0, 3, 0⟩, ⟨20, 7, 3, 0, 950⟩]
theorem F_law45_example_val (h : Hp) : F_law45_example [] h = some (.lst 5 false (exL.map encL), h) := by
  refine (F_law45_example_run (v := .lst 5 false (exL.map encL)) rfl ?_ h).trans rfl
  simp [f_law45_example, buildK, fillA, bsE, fillS, encL]
  try rfl
abbrev exT : List Allow := [⟨0, 9, 1, 1000⟩]
theorem F_law45_table_val (h : Hp) : F_law45_table [] h = some (.lst 4 false (exT.map encA), h) := by
  refine (F_law45_table_run (v := .lst 4 false (exT.map encA)) rfl ?_ h).trans rfl
  simp [f_law45_table, buildK, fillA, bsE, fillS, encA]
  try rfl
theorem ex_ok : okS exL = true := by decide
theorem days_L (T : Tab) (D : DTab) (N n : Nat) : f_journey_Days_L4 Tryz.prog T D N (fun w52_0 w52_7 w52_8 w52_9 h => f_journey_Days_j3 Tryz.prog T D N (fun v g => cvt false g v) w52_0 w52_7 w52_8 w52_9 h) (n + 6) (.lst 5 false (exL.map encL)) (I 100) (I 100) (I 0) (I (-1)) (.lst 5 false (exL.map encL)) (I 5) (I 0) [] = some (.tup [I 10, I 3, I 0]) := by kernel_rfl
theorem F_days_ex (h : Hp) : F_journey_Days [.lst 5 false (exL.map encL), I 100] h = some (.tup [I 10, I 3, I 0], h) := by
  refine F_journey_Days_run rfl ?_ h
  have fr := F_journey_right_val exL false (by decide)
  rw [ex_ok] at fr
  obtain ⟨n, hn⟩ : ∃ n, NN = n + 6 := ⟨NN - 6, by have := NN_ge; omega⟩
  refine Eq.trans ?_ (days_L t_journey_Days d_journey_Days NN n)
  rw [← hn]
  have w : win 100 0 100000 = true := rfl
  simp [encL] at fr
  have i0 : ∀ k : Go.AM.K AV, iaK 5 (.lst 5 false [[I 10, I 1, I 1, I 2, I 1000], [I 12, I 2, I 5, I 0, I 0], [I 15, I 3, I 0, I 0, I 0], [I 16, I 4, I 0, I 3, I 0], [I 20, I 7, I 3, I 0, I 950]]) (I 0) k = k (.ep [I 10, I 1, I 1, I 2, I 1000] 0) := fun k => rfl
  simp [f_journey_Days, fr, F_journey_in_val, w, encL, i0]
theorem msgs_L (T : Tab) (D : DTab) (N n : Nat) : ∃ ms : List (List AV), ms.length = 4 ∧ f_journey_Messages_L2 Tryz.prog T D N (fun w92_6 h => f_journey_Messages_j1 Tryz.prog T D N (fun v g => cvt false g v) w92_6 h) (n + 6) (I 7) nilS (I 0) (.lst 5 false (exL.map encL)) (I 5) (I 0) [] = some (.tup [.lst 7 false ms, I 0]) :=
  ⟨[[I 7, I 1, I 0, I 10, I 1, I 2, I 1000], [I 7, I 2, I 1, I 16, I 0, I 3, I 0], [I 7, I 3, I 0, I 20, I 0, I 0, I 950], [I 7, I 5, I 0, I 20, I 0, I 0, I 0]], rfl, by kernel_rfl⟩
theorem F_msgs_ex (h : Hp) : ∃ ms : List (List AV), ms.length = 4 ∧ ∀ h, F_journey_Messages [.lst 5 false (exL.map encL), I 7] h = some (.tup [.lst 7 false ms, I 0], h) := by
  have fr := F_journey_right_val exL false (by decide)
  rw [ex_ok] at fr
  obtain ⟨n, hn⟩ : ∃ n, NN = n + 6 := ⟨NN - 6, by have := NN_ge; omega⟩
  obtain ⟨ms, hm, e⟩ := msgs_L t_journey_Messages d_journey_Messages NN n
  refine ⟨ms, hm, fun h => ?_⟩
  refine (F_journey_Messages_run (v := .tup [.lst 7 false ms, I 0]) rfl ?_ h).trans rfl
  refine Eq.trans ?_ e
  rw [← hn]
  have w : win 7 1 1073741824 = true := rfl
  simp [encL] at fr
  simp [f_journey_Messages, fr, F_journey_in_val, w, encL]
theorem exT_rate (d : Int) (h0 : 0 ≤ d) (h31 : d < 31) : rateOn exT 9 d = 1000 := by
  have hm : Cal.Is d 1900 1 (d - Cal.dn 1900 1 + 1) := by
    have e1 : Cal.dn 1900 1 = 0 := by decide
    have e2 : Cal.len 1900 1 = 31 := by decide
    exact ⟨by decide, by decide, by omega, by omega⟩
  have hv : versionL exT d = some 0 := by
    unfold versionL upto
    rw [List.takeWhile_cons_of_pos (by simpa using h0)]
    rfl
  unfold rateOn
  rw [hv]
  show rateAt exT 0 9 (Cal.monthOf d) = 1000
  rw [hm.month_eq h0]
  rfl
theorem ex_claim : claimS exL exT = (⟨10, 0, 40, 0⟩, 0) := by
  have hs : sumA exT 9 10 20 = 10000 := by
    have := sumN_const (rateOn exT 9) 1000 10 10 (fun e h1 h2 => exT_rate e (by omega) (by omega))
    unfold sumA
    exact this
  have ha : allowedS exT 9 1000 10 20 = (10, 0) := by
    unfold allowedS
    rw [show rightA exT = true by decide, hs]
    rfl
  unfold claimS
  rw [show okS exL = true by decide, show rightA exT = true by decide]
  have hr : runS exL = (⟨1000, 0, 50, 950, 0, 1, 3, false, true⟩, -1, 0) := by decide
  rw [hr]
  show (lossL 1000 950 (allowedS exT 9 1000 10 20).1 0, 0) = _
  rw [ha]
  rfl
theorem ex_trans (h : Hp) (id : Nat) (hid : h[id]? = some (.arr 1 [[.lst 5 false (exL.map encL)]] true false)) : F_journey_Transit [.sl 1 id 0 1 1 true, I 15] h = some (.tup [I 1000, I 0], h) := by
  refine (F_journey_Transit_own (a0 := .lst 1 false ([((false, exL) : NL)].map encN)) (a1 := I 15) (by simp [cvts, cvt, cvtE, cvtCs, cvtC, cvt1, hid, okE, plain]) (fun st => Transit_run [((false, exL) : NL)] false 15 (by simp) (by simp) st)).trans ?_
  have : transS [((false, exL) : NL)] 15 = (1000, 0) := by decide
  rw [this]
theorem F_law45_awake_val (h : Hp) : F_law45_awake [] h = some (B true, h) := by
  refine F_law45_awake_run rfl ?_ h
  have fe := F_law45_example_val
  have ft := F_law45_table_val
  have r1 := F_journey_Run_val exL false (by decide)
  have hr : runS exL = (⟨1000, 0, 50, 950, 0, 1, 3, false, true⟩, -1, 0) := by decide
  rw [hr] at r1
  have r2 := ex_trans
  have r3 := F_days_ex
  have r4 := F_journey_Claim_val exL exT false false (by decide)
  rw [ex_claim] at r4
  obtain ⟨ms, hm, r5⟩ := F_msgs_ex []
  simp only [tupR, encJ] at r1
  simp only [encO] at r4
  generalize exL.map encL = L at *
  generalize exT.map encA = LT at *
  simp [f_law45_awake, fe, ft, r1, r2, r3, r4, r5, boxE, stE, ap, bsE, fillS, buildK, fillA, hm, show IntKind.i64.wrap 0 = 0 from by kernel_rfl]
end Go.AM


namespace Go.AM
open Go.Proofs
set_option linter.unusedVariables false
set_option linter.unusedSimpArgs false
set_option linter.constructorNameAsVariable false
set_option maxRecDepth 20000
theorem has_Leg {cs : List AV} (h : HasTs [.int .i64, .int .i64, .int .i64, .int .i64, .int .i64] cs) : ∃ p : Leg, cs = encL p := by
  simp only [HasTs, HasT] at h
  obtain ⟨_, _, rfl, ⟨a, rfl, _⟩, _, _, rfl, ⟨b, rfl, _⟩, _, _, rfl, ⟨c, rfl, _⟩, _, _, rfl, ⟨d, rfl, _⟩, _, _, rfl, ⟨e, rfl, _⟩, rfl⟩ := h
  exact ⟨⟨a, b, c, d, e⟩, rfl⟩
theorem has_Legs {a : AV} (h : HasT (.sl [.int .i64, .int .i64, .int .i64, .int .i64, .int .i64]) a) : ∃ (l : List Leg) (b : Bool), a = SL 5 encL b l := has_list (fun _ h => has_Leg h) h
theorem has_Allow {cs : List AV} (h : HasTs [.int .i64, .int .i64, .int .i64, .int .i64] cs) : ∃ p : Allow, cs = encA p := by
  simp only [HasTs, HasT] at h
  obtain ⟨_, _, rfl, ⟨a, rfl, _⟩, _, _, rfl, ⟨b, rfl, _⟩, _, _, rfl, ⟨c, rfl, _⟩, _, _, rfl, ⟨d, rfl, _⟩, rfl⟩ := h
  exact ⟨⟨a, b, c, d⟩, rfl⟩
theorem has_Allows {a : AV} (h : HasT (.sl [.int .i64, .int .i64, .int .i64, .int .i64]) a) : ∃ (l : List Allow) (b : Bool), a = SL 4 encA b l := has_list (fun _ h => has_Allow h) h
end Go.AM


namespace Go.AM
open Go.Proofs
set_option linter.unusedVariables false
set_option linter.unusedSimpArgs false
set_option linter.constructorNameAsVariable false
set_option maxRecDepth 20000
section
theorem F_slices_Clone_Allowance_val (l : List Allow) (b : Bool) (hl : l.length < 1000000) (h : Hp) : F_slices_Clone_Allowance [SL 4 encA b l] h = some (SL 4 encA b l, h) := by
  refine (F_slices_Clone_Allowance_run (v := if b && l.isEmpty then nilS else SL 4 encA b l) rfl ?_ h).trans ?_
  · by_cases hb : (b && l.isEmpty) = true
    · simp [f_slices_Clone_Allowance, hb]
    · have hb' : (b && l.isEmpty) = false := by simpa using hb
      have hle : l.length * 32 ≤ 140737488355328 := by omega
      have h2 : ((l.map encA).all fun e => e.length == 4) = true := by simp [encA]
      have h3 : okE false (l.map encA) = true := okE_map (by intro x; simp [encA])
      simp [f_slices_Clone_Allowance, hb', bsE, fillS, appE, readSl, hle, h2, ap]
      rw [cvt_whole rfl (by simp) (by simp) h3, SL, hb']
  · by_cases hb : (b && l.isEmpty) = true
    · obtain ⟨rfl, hl0⟩ := Bool.and_eq_true_iff.1 hb
      have : l = [] := by simpa using hl0
      subst this
      rfl
    · rw [if_neg hb]
      rfl
end
theorem F_law45_short_ex (l : List Leg) (b : Bool) (hl : l.length < 1000000) : ∃ s : Bool, ∀ h, F_law45_short [.lst 5 b (l.map encL)] h = some (B s, h) := by
  have ff := F_ref45_Few_val l b
  cases hf : fewL l.length with
  | false =>
    rw [hf] at ff
    exact ⟨false, fun h => F_law45_short_run rfl (by simp [f_law45_short, ff]) h⟩
  | true =>
    rw [hf] at ff
    cases hll : l with
    | nil =>
      rw [hll] at ff
      simp at ff
      exact ⟨true, fun h => F_law45_short_run rfl (by simp [f_law45_short, ff]) h⟩
    | cons c tl =>
      rw [← hll]
      have hl0 : l.length ≠ 0 := by rw [hll]; simp
      have hc0 : l[0]? = some c := by rw [hll]; rfl
      obtain ⟨d, hd⟩ : ∃ d, l.getLast? = some d := by
        cases hx : l.getLast? with
        | none => rw [List.getLast?_eq_none_iff] at hx; rw [hx] at hll; simp at hll
        | some d => exact ⟨d, rfl⟩
      have hdi : l[l.length - 1]? = some d := by rw [← hd, List.getLast?_eq_getElem?]
      have w2 : IntKind.i64.wrap ((l.length : Int) - 1) = (l.length : Int) - 1 := wrap64 (by omega) (by omega)
      have hz : ((l.length : Int) == 0) = false := by simp; exact fun e => hl0 (by rw [e]; rfl)
      have i0 : ∀ (k : Go.AM.K AV), iaK 5 (.lst 5 b (l.map encL)) (I 0) k = k (.ep (encL c) 0) := fun k => iaK_at 0 rfl hc0 k
      have i1 : ∀ (k : Go.AM.K AV), iaK 5 (.lst 5 b (l.map encL)) (I ((l.length : Int) - 1)) k = k (.ep (encL d) 0) := fun k => iaK_at (l.length - 1) (by omega) hdi k
      have ln : ∀ k : Go.AM.K AV, lenK (.lst 5 b (l.map encL)) k = k (I l.length) := fun k => by simp
      simp only [encL] at i0 i1
      by_cases q1 : d.day ≤ 600
      · refine ⟨true, fun h => F_law45_short_run (a0 := .lst 5 b (l.map encL)) rfl ?_ h⟩
        simp only [nrm, nrmC]
        generalize l.map encL = L at *
        generalize (l.length : Int) = m at *
        simp [f_law45_short, ff, ln, hz, w2, i0, i1, q1]
      · by_cases q2 : IntKind.i64.wrap (d.day - 600) ≤ c.day
        · refine ⟨true, fun h => F_law45_short_run (a0 := .lst 5 b (l.map encL)) rfl ?_ h⟩
          simp only [nrm, nrmC]
          generalize l.map encL = L at *
          generalize (l.length : Int) = m at *
          simp [f_law45_short, ff, ln, hz, w2, i0, i1, q1, q2]
        · refine ⟨false, fun h => F_law45_short_run (a0 := .lst 5 b (l.map encL)) rfl ?_ h⟩
          simp only [nrm, nrmC]
          generalize l.map encL = L at *
          generalize (l.length : Int) = m at *
          simp [f_law45_short, ff, ln, hz, w2, i0, i1, q1, q2]
end Go.AM


namespace Go.AM
open Go.Proofs
set_option linter.unusedVariables false
set_option linter.unusedSimpArgs false
set_option linter.constructorNameAsVariable false
set_option maxRecDepth 20000
theorem Days_L4 {β : Type} {P : Program} {T : Tab} {D : DTab} {N : Nat} {x1 : AV → AV → AV → AV → Hp → Option β} {X : Int → Int → Int → Option β} (l : List Leg) (b : Bool) (v0 : AV) (until_ : Int) (hx : ∀ h e hh s, x1 v0 (I e) (I hh) (I s) h = X e hh s) (hl : l.length ≤ 128) (hd : ∀ x ∈ l, 0 ≤ x.day ∧ x.day ≤ 100000) :
    ∀ (n : Nat) (pre post : List Leg) (e hh s : Int) (h : Hp), l = pre ++ post → post.length < n → (-1 ≤ s ∧ s ≤ 100000) → (-200000 * (pre.length : Int) ≤ hh ∧ hh ≤ 200000 * (pre.length : Int)) →
    f_journey_Days_L4 P T D N x1 n v0 (I until_) (I e) (I hh) (I s) (.lst 5 b (l.map encL)) (I l.length) (I pre.length) h = X ((untilD post until_).foldl dayStep (e, hh, s)).1 ((untilD post until_).foldl dayStep (e, hh, s)).2.1 ((untilD post until_).foldl dayStep (e, hh, s)).2.2 := by
  intro n
  induction n with
  | zero => intro pre post e hh s h _ h2; omega
  | succ n ih =>
    intro pre post e hh s h hc hn hs hb
    show f_journey_Days_b4 P T D N (f_journey_Days_L4 P T D N x1 n) x1 _ _ _ _ _ _ _ _ h = _
    cases post with
    | nil =>
      have : l = pre := by simpa using hc
      subst this
      simp [f_journey_Days_b4, untilD, hx]
    | cons c post =>
      have hi : pre.length < l.length := by rw [hc]; simp
      have hci : l[pre.length]? = some c := by rw [hc]; simp
      have hcd := hd c (by rw [hc]; simp)
      have hlt : ((pre.length : Int) < (l.length : Int)) := by omega
      have hw : IntKind.i64.wrap ((pre.length : Int) + 1) = (((pre ++ [c]).length : Nat) : Int) := by rw [wrap64 (by omega) (by omega)]; simp
      have ic : ∀ k : Go.AM.K β, iaK 5 (.lst 5 b (l.map encL)) (I pre.length) k = k (.ep (encL c) 0) := fun k => iaK_at pre.length rfl hci k
      have step := fun e hh s h q1 q2 => ih (pre ++ [c]) post e hh s h (by simpa using hc) (by simpa using hn) q1 q2
      have el : (((pre ++ [c]).length : Nat) : Int) = (pre.length : Int) + 1 := by simp
      simp only [encL] at ic
      simp only [f_journey_Days_b4, arithK_lss, hlt, decide_true, condK_bool, if_true, ic]
      by_cases q : c.day ≤ until_
      · have e1 : untilD (c :: post) until_ = c :: untilD post until_ := by unfold untilD; rw [List.takeWhile_cons_of_pos (by simpa using q)]
        rw [e1, List.foldl_cons]
        have q' : ¬ until_ < c.day := by omega
        by_cases k7 : c.kind = 7
        · have es : dayStep (e, hh, s) c = (c.day, hh, s) := by simp [dayStep, k7]
          rw [es, ← step c.day hh s (h ++ [.arr 5 [encL c] true false]) hs (by rw [el]; omega)]
          simp [boxE, stE, ap, encL, q', k7, f_journey_Days_j7, f_journey_Days_j6, f_journey_Days_j5, hw]
        · have k7' : (c.kind == 7) = false := by simpa using k7
          by_cases k2 : c.kind = 2
          · have es : dayStep (e, hh, s) c = (e, hh, c.day) := by simp [dayStep, k2]
            rw [es, ← step e hh c.day (h ++ [.arr 5 [encL c] true false]) (by omega) (by rw [el]; omega)]
            simp [boxE, stE, ap, encL, q', k2, f_journey_Days_j7, f_journey_Days_j6, f_journey_Days_j5, hw]
          · have k2' : (c.kind == 2) = false := by simpa using k2
            by_cases k3 : c.kind = 3
            · have es : dayStep (e, hh, s) c = (e, hh + c.day - s, -1) := by simp [dayStep, k3]
              have w1 : IntKind.i64.wrap (hh + c.day) = hh + c.day := wrap64 (by omega) (by omega)
              have w2 : IntKind.i64.wrap (hh + c.day - s) = hh + c.day - s := wrap64 (by omega) (by omega)
              rw [es, ← step e (hh + c.day - s) (-1) (h ++ [.arr 5 [encL c] true false]) (by omega) (by rw [el]; omega)]
              simp [boxE, stE, ap, encL, q', k3, f_journey_Days_j7, f_journey_Days_j6, f_journey_Days_j5, hw, w1, w2]
            · have k3' : (c.kind == 3) = false := by simpa using k3
              have es : dayStep (e, hh, s) c = (e, hh, s) := by simp [dayStep, k7, k2, k3]
              rw [es, ← step e hh s (h ++ [.arr 5 [encL c] true false]) hs (by rw [el]; omega)]
              simp [boxE, stE, ap, encL, q', k7', k2', k3', f_journey_Days_j7, f_journey_Days_j6, f_journey_Days_j5, hw]
      · have e1 : untilD (c :: post) until_ = [] := by unfold untilD; rw [List.takeWhile_cons_of_neg (by simpa using q)]
        have q' : until_ < c.day := by omega
        rw [e1]
        simp [boxE, stE, ap, encL, q', hx]
theorem fold_bd : ∀ (l : List Leg) (e hh s : Int) (m : Nat), (∀ x ∈ l, 0 ≤ x.day ∧ x.day ≤ 100000) → 0 ≤ e ∧ e ≤ 100000 → -1 ≤ s ∧ s ≤ 100000 → -200000 * (m : Int) ≤ hh ∧ hh ≤ 200000 * (m : Int) →
    (0 ≤ (l.foldl dayStep (e, hh, s)).1 ∧ (l.foldl dayStep (e, hh, s)).1 ≤ 100000) ∧ (-1 ≤ (l.foldl dayStep (e, hh, s)).2.2 ∧ (l.foldl dayStep (e, hh, s)).2.2 ≤ 100000) ∧ (-200000 * ((m + l.length : Nat) : Int) ≤ (l.foldl dayStep (e, hh, s)).2.1 ∧ (l.foldl dayStep (e, hh, s)).2.1 ≤ 200000 * ((m + l.length : Nat) : Int))
  | [], e, hh, s, m, _, h1, h2, h3 => ⟨h1, h2, by simpa using h3⟩
  | c :: l, e, hh, s, m, hd, h1, h2, h3 => by
    have hc := hd c (by simp)
    have hl := fun x hx => hd x (List.mem_cons_of_mem c hx)
    rw [List.foldl_cons, List.length_cons, show m + (l.length + 1) = (m + 1) + l.length by omega]
    by_cases k7 : c.kind = 7
    · have es : dayStep (e, hh, s) c = (c.day, hh, s) := by simp [dayStep, k7]
      rw [es]; exact fold_bd l c.day hh s (m + 1) hl hc h2 (by omega)
    · by_cases k2 : c.kind = 2
      · have es : dayStep (e, hh, s) c = (e, hh, c.day) := by simp [dayStep, k2]
        rw [es]; exact fold_bd l e hh c.day (m + 1) hl h1 (by omega) (by omega)
      · by_cases k3 : c.kind = 3
        · have es : dayStep (e, hh, s) c = (e, hh + c.day - s, -1) := by simp [dayStep, k3]
          rw [es]; exact fold_bd l e (hh + c.day - s) (-1) (m + 1) hl h1 (by omega) (by omega)
        · have es : dayStep (e, hh, s) c = (e, hh, s) := by simp [dayStep, k7, k2, k3]
          rw [es]; exact fold_bd l e hh s (m + 1) hl h1 h2 (by omega)
theorem F_journey_Days_val (l : List Leg) (b : Bool) (until_ : Int) (hl : l.length < 1000000) (h : Hp) : F_journey_Days [.lst 5 b (l.map encL), I until_] h = some (.tup [I (daysS l until_).1, I (daysS l until_).2.1, I (daysS l until_).2.2], h) := by
  refine F_journey_Days_run (a0 := .lst 5 b (l.map encL)) (a1 := I until_) rfl ?_ h
  simp only [nrm, nrmC]
  have fr := F_journey_right_val l b hl
  unfold daysS
  have ln : ∀ k : Go.AM.K AV, lenK (.lst 5 b (l.map encL)) k = k (I l.length) := fun k => by simp
  cases hr : okS l with
  | false =>
    rw [hr] at fr
    generalize l.map encL = L at *
    simp [f_journey_Days, fr]
  | true =>
    rw [hr] at fr
    cases hw : win until_ 0 100000
    · generalize l.map encL = L at *
      simp [f_journey_Days, fr, F_journey_in_val, hw]
    · have hu : 0 ≤ until_ ∧ until_ ≤ 100000 := by simpa [win] using hw
      cases hll : l with
      | nil =>
        rw [hll] at fr
        simp at fr
        simp [f_journey_Days, fr, F_journey_in_val, hw]
      | cons c tl =>
        have hc0 : l[0]? = some c := by rw [hll]; rfl
        have hz : ((l.length : Int) == 0) = false := by rw [hll]; simp; omega
        have i0 : ∀ (k : Go.AM.K AV), iaK 5 (.lst 5 b (l.map encL)) (I 0) k = k (.ep (encL c) 0) := fun k => iaK_at 0 rfl hc0 k
        simp only [encL] at i0
        simp only [Bool.true_eq_false, if_false]
        rw [← hll]
        by_cases hd : until_ < c.day
        · rw [if_pos hd]
          generalize l.map encL = L at *
          generalize (l.length : Int) = m at *
          simp [f_journey_Days, fr, F_journey_in_val, hw, ln, hz, i0, hd]
        · rw [if_neg hd]
          obtain ⟨m1, m2⟩ := okS_ok hr
          have hds := okL_days l _ _ _ m2
          have hdd : ∀ x ∈ l, 0 ≤ x.day ∧ x.day ≤ 100000 := fun x hx => (hds.1 x hx).2
          have L4 := Days_L4 (P := Tryz.prog) (T := t_journey_Days) (D := d_journey_Days) (N := NN) (x1 := fun w52_0 w52_7 w52_8 w52_9 h => f_journey_Days_j3 Tryz.prog t_journey_Days d_journey_Days NN (fun v g => cvt false g v) w52_0 w52_7 w52_8 w52_9 h)
            (X := fun e hh s => some (.tup [I (IntKind.i64.wrap (e - c.day)), I (if 0 ≤ s then IntKind.i64.wrap (hh + IntKind.i64.wrap (e - s)) else hh), I 0])) l b (.lst 5 b (l.map encL)) until_
            (fun h e hh s => by
              generalize l.map encL = L at *
              by_cases q : 0 ≤ s <;> simp [f_journey_Days_j3, f_journey_Days_j1, f_journey_Days_j2, q, i0]) m1 hdd NN [] l until_ 0 (-1) [] rfl (by have := NN_ge; omega) (by omega) (by simp)
          have de := days_eq until_ l zeroJ false 0 0 (-1) m2 rfl (fun _ => rfl) hu.1 (Int.le_refl _) (by simp [zeroJ])
          have hul : ∀ x ∈ untilD l until_, 0 ≤ x.day ∧ x.day ≤ 100000 := fun x hx => hdd x ((List.takeWhile_sublist _).subset hx)
          have bd := fold_bd (untilD l until_) until_ 0 (-1) 0 hul hu (by omega) (by simp)
          have ul := until_len l until_
          have hcd := hdd c (by rw [hll]; simp)
          obtain ⟨⟨e, hh, s⟩, hE⟩ : ∃ r, r = (untilD l until_).foldl dayStep (until_, 0, -1) := ⟨_, rfl⟩
          rw [← hE] at L4 de bd
          simp only [dayClose, Prod.mk.injEq, zeroJ] at de bd
          simp only [Bool.false_eq_true, if_false] at de
          obtain ⟨d1, d2⟩ := de
          have w1 : IntKind.i64.wrap (e - c.day) = e - c.day := wrap64 (by omega) (by omega)
          have w2 : IntKind.i64.wrap (e - s) = e - s := wrap64 (by omega) (by omega)
          have w3 : IntKind.i64.wrap (hh + (e - s)) = hh + (e - s) := wrap64 (by omega) (by omega)
          dsimp only at L4
          rw [w1, w2, w3] at L4
          have fin : some (AV.tup [I (e - c.day), I (if 0 ≤ s then hh + (e - s) else hh), I 0]) = some (AV.tup [I (endE l until_ - c.day), I (haltR (endE l until_) l), I 0]) := by
            rw [d2, d1]; simp
          rw [fin] at L4
          generalize l.map encL = L at *
          generalize (l.length : Int) = m at *
          simp [f_journey_Days, fr, F_journey_in_val, hw, ln, hz, i0, hd]
          exact L4
end Go.AM


namespace Go.AM
set_option linter.unusedVariables false
set_option linter.unusedSimpArgs false
section
variable {β : Type}
def Grm {α : Type} (sz : Nat) (f : α → List AV) (h : Hp) (v : AV) (l : List α) : Prop := ∃ k b, v = .sl sz k 0 l.length l.length b ∧ h[k]? = some (.arr sz (l.map f) true false) ∧ (b = true → l = [])
theorem Grm.keep {α : Type} {sz : Nat} {f : α → List AV} {h h' : Hp} {v : AV} {l : List α} (O : Grm sz f h v l) (hk : ∀ k o, idOf v = some k → h[k]? = some o → h'[k]? = some o) : Grm sz f h' v l := by
  obtain ⟨k, b, rfl, h2, h3⟩ := O
  exact ⟨k, b, rfl, hk k _ rfl h2, h3⟩
theorem Grm.app {α : Type} {sz : Nat} {f : α → List AV} {h : Hp} {v : AV} {l : List α} (O : Grm sz f h v l) (x : List AObj) : Grm sz f (h ++ x) v l := O.keep fun k o _ hk => get_app hk
theorem Grm.lt {α : Type} {sz : Nat} {f : α → List AV} {h : Hp} {v : AV} {l : List α} (O : Grm sz f h v l) : ∃ k, idOf v = some k ∧ k < h.length := by
  obtain ⟨k, b, rfl, h2, h3⟩ := O
  exact ⟨k, rfl, (List.getElem?_eq_some_iff.1 h2).1⟩
theorem Grm.cvt {α : Type} {sz : Nat} {f : α → List AV} {h : Hp} {v : AV} {l : List α} (O : Grm sz f h v l) (hf : ∀ x st, (f x).all (fun c => bif st then isS c else plain c) = true) (st : Bool) : Go.AM.cvt st h v = some (.lst sz false (l.map f)) := by
  obtain ⟨k, b, rfl, h2, h3⟩ := O
  exact cvt_whole h2 (by simp) (by simp) (okE_map fun x => hf x st)
theorem Grm.len {α : Type} {sz : Nat} {f : α → List AV} {h : Hp} {v : AV} {l : List α} (O : Grm sz f h v l) (k : Go.AM.K β) : lenK v k = k (I l.length) := by
  obtain ⟨j, b, rfl, h2, h3⟩ := O
  simp
theorem Grm.apps {α : Type} {sz : Nat} {f : α → List AV} {h : Hp} {v : AV} {l : List α} (β : Type) (O : Grm sz f h v l) {by_ m : Nat} {zs : List α} {b : Bool} (h0 : zs ≠ []) (hm : h[m]? = some (.arr sz (zs.map f) true false)) (hv : idOf v ≠ some m) (hf : ∀ x ∈ zs ++ l, (f x).length = sz) (hl : (l.length + zs.length) * by_ ≤ 140737488355328) :
    ∃ v' h', (∀ k : AV → Hp → Option β, effK (appE sz by_ v (.sl sz m 0 zs.length zs.length b) h h.length) h k = k v' h') ∧ Grm sz f h' v' (l ++ zs) ∧ h.length ≤ h'.length ∧ (∀ j o, h[j]? = some o → idOf v ≠ some j → h'[j]? = some o) ∧ (idOf v' = idOf v ∨ idOf v' = some h.length) := by
  have hz : ((zs.map f).all fun e => e.length == sz) = true := by
    rw [List.all_map, List.all_eq_true]
    intro x hx
    simpa using hf x (by simp [hx])
  have hn : zs.length ≠ 0 := by simpa using h0
  have hr : readSl h (.sl sz m 0 zs.length zs.length b) = some (zs.map f) := by
    simp [readSl, hm]
    try rw [List.take_of_length_le (by simp)]
  obtain ⟨k, bb, rfl, h2, h3⟩ := O
  have hkl := (List.getElem?_eq_some_iff.1 h2).1
  cases bb with
  | true =>
    have := h3 rfl
    subst this
    refine ⟨.sl sz h.length 0 zs.length zs.length false, h ++ [.arr sz (zs.map f) true false], fun k' => ?_, ⟨h.length, false, by simp, by simp, by simp⟩, by simp, fun j o hj _ => get_app hj, .inr rfl⟩
    have hl' : zs.length * by_ ≤ 140737488355328 := by simpa using hl
    unfold appE
    rw [hr]
    simp [h2, hz, hl', hn, effK, ap]
  | false =>
    refine ⟨.sl sz k 0 (l ++ zs).length (l ++ zs).length false, h.set k (.arr sz ((l ++ zs).map f) true false), fun k' => ?_, ⟨k, false, rfl, by simp [hkl], by simp⟩, by simp, fun j o hj hn => ?_, .inl rfl⟩
    · unfold appE
      rw [hr]
      simp [h2, hz, hl, hn, effK, ap]
    · have hkj : k ≠ j := by rintro rfl; exact hn rfl
      rw [List.getElem?_set_ne hkj]; exact hj
end
end Go.AM


namespace Go.AM
set_option linter.unusedVariables false
variable {β : Type}
theorem arithK_cg {op : BinOp} {x : AV} {y : AV} {k : K β} {x' : AV} {y' : AV} (e_x : x = x') (e_y : y = y') : arithK op x y k = arithK op x' y' k := by subst e_x e_y; rfl
theorem eqK_cg {P : Program} {neq : Bool} {ty : TypeId} {x : AV} {y : AV} {h : Hp} {k : K β} {x' : AV} {y' : AV} {h' : Hp} (e_x : x = x') (e_y : y = y') (e_h : h = h') : eqK P neq ty x y h k = eqK P neq ty x' y' h' k := by subst e_x e_y e_h; rfl
theorem notK_cg {x : AV} {k : K β} {x' : AV} (e_x : x = x') : notK x k = notK x' k := by subst e_x; rfl
theorem convK_cg {P : Program} {a : TypeId} {b : TypeId} {x : AV} {k : K β} {x' : AV} (e_x : x = x') : convK P a b x k = convK P a b x' k := by subst e_x; rfl
theorem pickK_cg {c : AV} {a : AV} {b : AV} {k : K β} {c' : AV} {a' : AV} {b' : AV} (e_c : c = c') (e_a : a = a') (e_b : b = b') : pickK c a b k = pickK c' a' b' k := by subst e_c e_a e_b; rfl
theorem buildK_cg {z : List AV} {parts : List (Option (Nat × Nat) × AV)} {k : K β} {z' : List AV} (e_z : z = z') : buildK z parts k = buildK z' parts k := by subst e_z; rfl
theorem ldK_cg {n : Nat} {agg : Bool} {p : AV} {h : Hp} {k : K β} {p' : AV} {h' : Hp} (e_p : p = p') (e_h : h = h') : ldK n agg p h k = ldK n agg p' h' k := by subst e_p e_h; rfl
theorem nilK_cg {x : AV} {k : K β} {x' : AV} (e_x : x = x') : nilK x k = nilK x' k := by subst e_x; rfl
theorem sliceK_cg {n : Nat} {x : AV} {lo : Option AV} {hi : Option AV} {mx : Option AV} {k : K β} {x' : AV} (e_x : x = x') : sliceK n x lo hi mx k = sliceK n x' lo hi mx k := by subst e_x; rfl
theorem faK_cg {off : Nat} {p : AV} {k : K β} {p' : AV} (e_p : p = p') : faK off p k = faK off p' k := by subst e_p; rfl
theorem fldK_cg {n : Nat} {agg : Bool} {off : Nat} {x : AV} {k : K β} {x' : AV} (e_x : x = x') : fldK n agg off x k = fldK n agg off x' k := by subst e_x; rfl
theorem iaK_cg {n : Nat} {x : AV} {i : AV} {k : K β} {x' : AV} {i' : AV} (e_x : x = x') (e_i : i = i') : iaK n x i k = iaK n x' i' k := by subst e_x e_i; rfl
theorem iaA_cg {n : Nat} {len : Nat} {x : AV} {i : AV} {k : K β} {x' : AV} {i' : AV} (e_x : x = x') (e_i : i = i') : iaA n len x i k = iaA n len x' i' k := by subst e_x e_i; rfl
theorem lookK_cg {P : Program} {kt : TypeId} {z : AV} {ok : Bool} {m : AV} {kk : AV} {h : Hp} {k : K β} {z' : AV} {m' : AV} {kk' : AV} {h' : Hp} (e_z : z = z') (e_m : m = m') (e_kk : kk = kk') (e_h : h = h') : lookK P kt z ok m kk h k = lookK P kt z' ok m' kk' h' k := by subst e_z e_m e_kk e_h; rfl
theorem capK_cg {x : AV} {k : K β} {x' : AV} (e_x : x = x') : capK x k = capK x' k := by subst e_x; rfl
theorem exK_cg {x : AV} {i : Nat} {k : K β} {x' : AV} (e_x : x = x') : exK x i k = exK x' i k := by subst e_x; rfl
theorem lenK_cg {x : AV} {k : K β} {x' : AV} (e_x : x = x') : lenK x k = lenK x' k := by subst e_x; rfl
theorem minK_cg {x : AV} {y : AV} {k : K β} {x' : AV} {y' : AV} (e_x : x = x') (e_y : y = y') : minK x y k = minK x' y' k := by subst e_x e_y; rfl
theorem maxK_cg {x : AV} {y : AV} {k : K β} {x' : AV} {y' : AV} (e_x : x = x') (e_y : y = y') : maxK x y k = maxK x' y' k := by subst e_x e_y; rfl
theorem effK_cg {r : R} {h : Hp} {k : AV → Hp → Option β} {r' : R} {h' : Hp} (e_r : r = r') (e_h : h = h') : effK r h k = effK r' h' k := by subst e_r e_h; rfl
theorem callK_cg {F : Option Fun} {args : List AV} {h : Hp} {k : AV → Hp → Option β} {F' : Option Fun} {args' : List AV} {h' : Hp} (e_F : F = F') (e_args : args = args') (e_h : h = h') : callK F args h k = callK F' args' h' k := by subst e_F e_args e_h; rfl
theorem callVK_cg {T : Tab} {f : AV} {args : List AV} {h : Hp} {k : AV → Hp → Option β} {T' : Tab} {f' : AV} {args' : List AV} {h' : Hp} (e_T : T = T') (e_f : f = f') (e_args : args = args') (e_h : h = h') : callVK T f args h k = callVK T' f' args' h' k := by subst e_T e_f e_args e_h; rfl
theorem effD_cg {r : R} {h : Hp} {k : AV → Hp → Ent → Option β} {r' : R} {h' : Hp} (e_r : r = r') (e_h : h = h') : effD r h k = effD r' h' k := by subst e_r e_h; rfl
theorem gopD_cg {g : Option Bool} {h : Hp} {run : (AV → Hp → Ent → Option β) → Option β} {k : AV → Hp → Ent → Option β} {g' : Option Bool} {h' : Hp} (e_g : g = g') (e_h : h = h') : gopD g h run k = gopD g' h' run k := by subst e_g e_h; rfl
theorem grpK_cg {want : Bool} {x : AV} {h : Hp} {run : (AV → Hp → Option β) → Option β} {k : AV → Hp → Option β} {x' : AV} {h' : Hp} {run' : (AV → Hp → Option β) → Option β} (e_x : x = x') (e_h : h = h') (e_run : ∀ K, run K = run' K) : grpK want x h run k = grpK want x' h' run' k := by
  have : run = run' := funext e_run
  subst e_x e_h this; rfl
theorem condK_cg {c : AV} {a : Option β} {b : Option β} {c' : AV} (e_c : c = c') : condK c a b = condK c' a b := by subst e_c; rfl
theorem cond_cg {α : Type} {c c' : Bool} {a b : α} (e : c = c') : cond c a b = cond c' a b := by subst e; rfl
end Go.AM


namespace Go.AM
open Go.Proofs
set_option linter.unusedVariables false
set_option linter.unusedSimpArgs false
set_option linter.constructorNameAsVariable false
set_option maxRecDepth 20000
structure Msg where
  mv : Int
  kind : Int
  num : Int
  day : Int
  frm : Int
  to : Int
  alc : Int
deriving DecidableEq
def encM (m : Msg) : List AV := [I m.mv, I m.kind, I m.num, I m.day, I m.frm, I m.to, I m.alc]
def msgL (mv c : Int) : List Leg → List Msg
  | [] => []
  | x :: l => if x.kind = 1 then ⟨mv, 1, 0, x.day, x.place, x.to, x.alc⟩ :: msgL mv c l else if x.kind = 4 then ⟨mv, 2, c + 1, x.day, 0, x.to, 0⟩ :: msgL mv (c + 1) l else if x.kind = 7 then ⟨mv, 3, 0, x.day, 0, 0, x.alc⟩ :: ⟨mv, 5, 0, x.day, 0, 0, 0⟩ :: msgL mv c l else msgL mv c l
def msgS (l : List Leg) (mv : Int) : List Msg × Int := if okS l = false then ([], 1) else if win mv 1 1073741824 = false then ([], 2) else if 64 < (msgL mv 0 l).length then ([], 8) else (msgL mv 0 l, 0)
theorem msgL_len (mv : Int) : ∀ (l : List Leg) (c : Int), (msgL mv c l).length ≤ 2 * l.length
  | [], _ => by simp [msgL]
  | x :: l, c => by
    have h1 := msgL_len mv l c
    have h2 := msgL_len mv l (c + 1)
    rw [msgL]
    split
    · simp; omega
    · split
      · simp; omega
      · split
        · simp; omega
        · simp; omega
attribute [local congr] arithK_cg eqK_cg notK_cg convK_cg pickK_cg buildK_cg ldK_cg nilK_cg sliceK_cg faK_cg fldK_cg iaK_cg iaA_cg lookK_cg capK_cg exK_cg lenK_cg minK_cg maxK_cg effK_cg callK_cg callVK_cg effD_cg gopD_cg grpK_cg condK_cg cond_cg
section
variable {β : Type}
set_option maxHeartbeats 8000000 in
theorem Messages_L2 {P : Program} {T : Tab} {D : DTab} {N : Nat} {x1 : AV → Hp → Option β} (l : List Leg) (b : Bool) (mv : Int) (hl : l.length < 1000) :
    ∀ (n : Nat) (pre post : List Leg) (v : AV) (c : Int) (h : Hp) (out : List Msg), l = pre ++ post → post.length < n → Gro 7 encM h v out → 0 ≤ c ∧ c ≤ pre.length → out.length ≤ 2 * pre.length →
    ∃ v' h', f_journey_Messages_L2 Tryz.prog T D N x1 n (I mv) v (I c) (.lst 5 b (l.map encL)) (I l.length) (I pre.length) h = x1 v' h' ∧ Gro 7 encM h' v' (out ++ msgL mv c post) := by
  intro n
  induction n with
  | zero => intro pre post v c h out _ h2; omega
  | succ n ih =>
    intro pre post v c h out hc hn G hcb ho
    show ∃ v' h', f_journey_Messages_b2 Tryz.prog T D N (f_journey_Messages_L2 Tryz.prog T D N x1 n) x1 _ _ _ _ _ _ h = _ ∧ _
    cases post with
    | nil =>
      have : l = pre := by simpa using hc
      subst this
      exact ⟨v, h, by simp [f_journey_Messages_b2], by simpa [msgL] using G⟩
    | cons x post =>
      have hi : pre.length < l.length := by rw [hc]; simp
      have hci : l[pre.length]? = some x := by rw [hc]; simp
      have hlt : ((pre.length : Int) < (l.length : Int)) := by omega
      have hw : IntKind.i64.wrap ((pre.length : Int) + 1) = (((pre ++ [x]).length : Nat) : Int) := by rw [wrap64 (by omega) (by omega)]; simp
      have wc : IntKind.i64.wrap (c + 1) = c + 1 := wrap64 (by omega) (by omega)
      have ic : ∀ k : Go.AM.K β, iaK 5 (.lst 5 b (l.map encL)) (I pre.length) k = k (.ep (encL x) 0) := fun k => iaK_at pre.length rfl hci k
      have step := fun v c h out => ih (pre ++ [x]) post v c h out (by simpa using hc) (by simpa using hn)
      have hpl : ((pre ++ [x]).length : Int) = (pre.length : Int) + 1 := by simp
      have hpl2 : (pre ++ [x]).length = pre.length + 1 := by simp
      simp only [f_journey_Messages_b2, arithK_lss, hlt, decide_true, condK_bool, if_true, ic]
      rw [msgL]
      clear hc ih hci ic
      obtain ⟨dy, kd, pl, to, al⟩ := x
      dsimp only
      simp only [encL] at *
      generalize l.map encL = L at *
      by_cases q1 : kd = 1
      · subst q1
        obtain ⟨v', h3, k1, k2, k3, k4, k5⟩ := (G.app [.arr 5 [[I dy, I 1, I pl, I to, I al]] true false, .arr 7 [[I mv, I 1, I 0, I dy, I pl, I to, I al]] true false, .arr 7 [[I mv, I 1, I 0, I dy, I pl, I to, I al]] true false]).snoc β (by_ := 56) (m := h.length + 2) (z := (⟨mv, 1, 0, dy, pl, to, al⟩ : Msg)) (b := true) (by simp [encM]) (fun e => by have := G.lt e; omega) (by intro y _; rfl) (by omega)
        obtain ⟨a1, a2, a3, a4⟩ := step v' c h3 (out ++ [⟨mv, 1, 0, dy, pl, to, al⟩]) k2 (by omega) (by rw [List.length_append]; simp; omega)
        refine ⟨a1, a2, ?_, by simpa using a4⟩
        rw [← a3]
        simp at k1
        simp (maxSteps := 10000000) [boxE, stE, ap, buildK, fillA, disjAll, disj2, idsOf, wrOf, bsE, fillS, f_journey_Messages_j6, f_journey_Messages_j5, f_journey_Messages_j4, f_journey_Messages_j3, hw, k1]
      · by_cases q4 : kd = 4
        · subst q4
          obtain ⟨v', h3, k1, k2, k3, k4, k5⟩ := (G.app [.arr 5 [[I dy, I 4, I pl, I to, I al]] true false, .arr 7 [[I mv, I 2, I (c + 1), I dy, I 0, I to, I 0]] true false, .arr 7 [[I mv, I 2, I (c + 1), I dy, I 0, I to, I 0]] true false]).snoc β (by_ := 56) (m := h.length + 2) (z := (⟨mv, 2, c + 1, dy, 0, to, 0⟩ : Msg)) (b := true) (by simp [encM]) (fun e => by have := G.lt e; omega) (by intro y _; rfl) (by omega)
          obtain ⟨a1, a2, a3, a4⟩ := step v' (c + 1) h3 (out ++ [⟨mv, 2, c + 1, dy, 0, to, 0⟩]) k2 (by omega) (by rw [List.length_append]; simp; omega)
          refine ⟨a1, a2, ?_, by simpa using a4⟩
          rw [← a3]
          simp at k1
          simp (maxSteps := 10000000) [boxE, stE, ap, buildK, fillA, disjAll, disj2, idsOf, wrOf, bsE, fillS, f_journey_Messages_j6, f_journey_Messages_j5, f_journey_Messages_j4, f_journey_Messages_j3, hw, wc, k1]
        · have q1' : (kd == 1) = false := by simpa using q1
          have q4' : (kd == 4) = false := by simpa using q4
          by_cases q7 : kd = 7
          · subst q7
            obtain ⟨v', h3, k1, k2, k3, k4, k5⟩ := (G.app [.arr 5 [[I dy, I 7, I pl, I to, I al]] true false, .arr 7 [[I mv, I 3, I 0, I dy, I 0, I 0, I al]] true false, .arr 7 [[I mv, I 3, I 0, I dy, I 0, I 0, I al]] true false]).snoc β (by_ := 56) (m := h.length + 2) (z := (⟨mv, 3, 0, dy, 0, 0, al⟩ : Msg)) (b := true) (by simp [encM]) (fun e => by have := G.lt e; omega) (by intro y _; rfl) (by omega)
            have n0 : h3[h.length]? = some (.arr 5 [[I dy, I 7, I pl, I to, I al]] true false) := k4 h.length _ (by simp) (fun e => by have := G.lt e; omega)
            have n1 : h3[h.length + 1]? = some (.arr 7 [[I mv, I 3, I 0, I dy, I 0, I 0, I al]] true false) := k4 (h.length + 1) _ (by simp) (fun e => by have := G.lt e; omega)
            have nv : idOf v' ≠ some (h.length + 1) := fun e => by
              rcases k5 with k5 | k5
              · rw [k5] at e; have := G.lt e; omega
              · rw [k5] at e; simp at e
            have n1l := (List.getElem?_eq_some_iff.1 n1).1
            have G2 : Gro 7 encM (h3.set (h.length + 1) (.arr 7 [[I mv, I 5, I 0, I dy, I 0, I 0, I 0]] true false)) v' (out ++ [⟨mv, 3, 0, dy, 0, 0, al⟩]) := k2.keep fun k o hk hko => by
              rw [List.getElem?_set_ne (by rintro rfl; exact nv hk)]; exact hko
            obtain ⟨v2, h4, j1, j2, j3, j4, j5⟩ := (G2.app [.arr 7 [[I mv, I 5, I 0, I dy, I 0, I 0, I 0]] true false]).snoc β (by_ := 56) (m := h3.length) (z := (⟨mv, 5, 0, dy, 0, 0, 0⟩ : Msg)) (b := true) (by rw [List.getElem?_append_right (by simp)]; simp [encM]) (fun e => by have := G2.lt e; simp at this) (by intro y _; rfl) (by rw [List.length_append]; simp; omega)
            obtain ⟨a1, a2, a3, a4⟩ := step v2 c h4 (out ++ [⟨mv, 3, 0, dy, 0, 0, al⟩] ++ [⟨mv, 5, 0, dy, 0, 0, 0⟩]) j2 (by omega) (by simp only [List.length_append, List.length_singleton]; omega)
            refine ⟨a1, a2, ?_, by simpa using a4⟩
            rw [← a3]
            simp at k1
            simp only [List.length_append, List.length_set, List.length_singleton] at j1
            have n2 : (h3.set (h.length + 1) (.arr 7 [[I mv, I 5, I 0, I dy, I 0, I 0, I 0]] true false))[h.length + 1]? = some (.arr 7 [[I mv, I 5, I 0, I dy, I 0, I 0, I 0]] true false) := List.getElem?_set_self n1l
            simp (maxSteps := 10000000) [boxE, stE, ap, buildK, fillA, disjAll, disj2, idsOf, wrOf, bsE, fillS, k1, n0, n1]
            simp [f_journey_Messages_j6, f_journey_Messages_j5, f_journey_Messages_j4, f_journey_Messages_j3, n2, n1l, bsE, fillS, ap, j1, hw]
          · have q7' : (kd == 7) = false := by simpa using q7
            obtain ⟨a1, a2, a3, a4⟩ := step v c (h ++ [.arr 5 [[I dy, I kd, I pl, I to, I al]] true false, .arr 7 [[I mv, I 0, I 0, I dy, I 0, I 0, I 0]] true false]) out (by simpa using G.app _) (by omega) (by omega)
            refine ⟨a1, a2, ?_, by simpa [q1, q4, q7] using a4⟩
            rw [← a3]
            simp (maxSteps := 10000000) [boxE, stE, ap, buildK, fillA, q1', q4', q7', f_journey_Messages_j4, f_journey_Messages_j3, hw]
end
theorem F_journey_Messages_val (l : List Leg) (b : Bool) (mv : Int) (hl : l.length < 1000) (h : Hp) : F_journey_Messages [.lst 5 b (l.map encL), I mv] h = some (.tup [.lst 7 (msgS l mv).1.isEmpty ((msgS l mv).1.map encM), I (msgS l mv).2], h) := by
  have base : ∀ w v, f_journey_Messages Tryz.prog t_journey_Messages d_journey_Messages NN (fun v g => cvt false g v) (.lst 5 b (l.map encL)) (I mv) [] = some w → nrmR [.l 7, .o] w = v → F_journey_Messages [.lst 5 b (l.map encL), I mv] h = some (v, h) := fun w v e1 e2 => by
    rw [← e2]
    exact F_journey_Messages_run (a0 := .lst 5 b (l.map encL)) (a1 := I mv) rfl e1 h
  have fr := F_journey_right_val l b (by omega)
  unfold msgS
  cases hr : okS l with
  | false =>
    rw [hr] at fr
    refine base (.tup [nilS, I 1]) _ ?_ rfl
    generalize l.map encL = L at *
    simp [f_journey_Messages, fr]
  | true =>
    rw [hr] at fr
    rw [if_neg (by simp)]
    cases hw : win mv 1 1073741824 with
    | false =>
      refine base (.tup [nilS, I 2]) _ ?_ rfl
      generalize l.map encL = L at *
      simp [f_journey_Messages, fr, F_journey_in_val, hw]
    | true =>
      rw [if_neg (by simp)]
      have ln : ∀ k : Go.AM.K AV, lenK (.lst 5 b (l.map encL)) k = k (I l.length) := fun k => by simp
      obtain ⟨v, h', k1, G⟩ := Messages_L2 (P := Tryz.prog) (T := t_journey_Messages) (D := d_journey_Messages) (N := NN) (x1 := fun w92_6 h => f_journey_Messages_j1 Tryz.prog t_journey_Messages d_journey_Messages NN (fun v g => cvt false g v) w92_6 h) l b mv hl NN [] l nilS 0 [] [] rfl (by have := NN_ge; omega) .nil (by simp) (by simp)
      rw [List.nil_append] at G
      have gl := fun k => G.len (β := AV) k
      have red : f_journey_Messages Tryz.prog t_journey_Messages d_journey_Messages NN (fun v g => cvt false g v) (.lst 5 b (l.map encL)) (I mv) [] = f_journey_Messages_j1 Tryz.prog t_journey_Messages d_journey_Messages NN (fun v g => cvt false g v) v h' := by
        rw [← k1]
        clear base k1
        generalize l.map encL = L at *
        simp [f_journey_Messages, fr, F_journey_in_val, hw, ln]
      by_cases h64 : 64 < (msgL mv 0 l).length
      · have h64' : (64 : Int) < ((msgL mv 0 l).length : Int) := by omega
        rw [if_pos h64]
        refine base (.tup [nilS, I 8]) _ (red.trans ?_) rfl
        simp [f_journey_Messages_j1, gl, h64']
      · have h64' : ¬ (64 : Int) < ((msgL mv 0 l).length : Int) := by omega
        rw [if_neg h64]
        obtain ⟨w, p1, p2⟩ := G.cvts (fun x st => by cases st <;> simp [encM, isS])
        refine base (.tup [w, I 0]) _ (red.trans ?_) (by
          show AV.tup [nrm (.l 7) w, I 0] = _
          rw [p2])
        simp [f_journey_Messages_j1, gl, h64', p1]
end Go.AM

