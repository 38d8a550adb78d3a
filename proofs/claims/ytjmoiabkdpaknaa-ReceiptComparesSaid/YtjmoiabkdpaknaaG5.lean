import Derived.Test.YtjmoiabkdpaknaaG4
import Derived.Below
import Derived.ChangeOld
import Derived.Carry
import Derived.OpenShut
set_option linter.unusedSectionVars false
set_option linter.unusedVariables false
set_option linter.unusedSimpArgs false
set_option linter.constructorNameAsVariable false
namespace Go.AM
open Go.Proofs
set_option linter.unusedVariables false
set_option linter.unusedSimpArgs false
set_option linter.constructorNameAsVariable false
set_option maxRecDepth 20000
theorem prod_nat (x y : Nat) : (x / 2147483648) * (y / 2147483648) + ((x % 2147483648) * (y / 2147483648) + (x % 2147483648) * (y % 2147483648) / 2147483648) / 2147483648 +
      ((x / 2147483648) * (y % 2147483648) + ((x % 2147483648) * (y / 2147483648) + (x % 2147483648) * (y % 2147483648) / 2147483648) % 2147483648) / 2147483648 = x * y / 4611686018427387904 ∧
    ((x / 2147483648) * (y % 2147483648) + ((x % 2147483648) * (y / 2147483648) + (x % 2147483648) * (y % 2147483648) / 2147483648) % 2147483648) % 2147483648 * 2147483648 + (x % 2147483648) * (y % 2147483648) % 2147483648 = x * y % 4611686018427387904 := by
  have hx : x = 2147483648 * (x / 2147483648) + x % 2147483648 := by omega
  have hy : y = 2147483648 * (y / 2147483648) + y % 2147483648 := by omega
  generalize x / 2147483648 = a at *
  generalize x % 2147483648 = b at *
  generalize y / 2147483648 = c at *
  generalize y % 2147483648 = d at *
  have e : x * y = 4611686018427387904 * (a * c) + 2147483648 * (b * c + a * d) + b * d := by
    subst hx hy
    rw [Nat.add_mul, Nat.mul_add, Nat.mul_add]
    have e1 : 2147483648 * a * (2147483648 * c) = 4611686018427387904 * (a * c) := by
      rw [Nat.mul_mul_mul_comm]
    have e2 : 2147483648 * a * d = 2147483648 * (a * d) := Nat.mul_assoc _ _ _
    have e3 : b * (2147483648 * c) = 2147483648 * (b * c) := Nat.mul_left_comm _ _ _
    rw [e1, e2, e3]
    omega
  rw [e]
  generalize a * c = A
  generalize b * c = B
  generalize a * d = C
  generalize b * d = E
  omega
section
variable {β : Type} {P : Program} {ty : TypeId}
theorem mask31 (a : Nat) (ha : a < 18446744073709551616) (k : K β) : reckK P .and ty (U a) (.s (.int .u64 2147483647)) k = k (U (a % 2147483648)) := by
  have h1 := reck_and (P := P) (ty := ty) a 2147483647 ha (by decide) k
  have h2 : a &&& 2147483647 = a % 2147483648 := Nat.and_two_pow_sub_one_eq_mod a 31
  rw [h2] at h1
  exact h1
theorem shr31 (a : Nat) (k : K β) : reckK P .shr ty (U a) (.s (.int .u64 31)) k = k (U (a / 2147483648)) := reck_shr a 31 (by decide) k
theorem shl31 (a : Nat) (ha : a < 2147483648) (k : K β) : reckK P .shl ty (U a) (.s (.int .u64 31)) k = k (U (a * 2147483648)) := by
  have := reck_shl (P := P) (ty := ty) a 31 (by decide) k
  rw [show a * 2 ^ 31 % 18446744073709551616 = a * 2147483648 from by omega] at this
  exact this
theorem or31 (a b : Nat) (ha : a < 2147483648) (hb : b < 2147483648) (k : K β) : reckK P .or ty (U (a * 2147483648)) (U b) k = k (U (a * 2147483648 + b)) := by
  rw [reck_or _ _ (by omega) (by omega)]
  have := Nat.two_pow_add_eq_or_of_lt (i := 31) (b := b) (by omega) a
  rw [show a * 2147483648 = 2 ^ 31 * a from by omega, ← this]
end
theorem mul31 {a b : Nat} (ha : a < 2147483648) (hb : b < 2147483648) : a * b ≤ 4611686014132420609 := by
  have : a * b ≤ 2147483647 * 2147483647 := Nat.mul_le_mul (by omega) (by omega)
  omega
theorem F_ref01_Product_val (x y : Nat) (hx : x < 4611686018427387904) (hy : y < 4611686018427387904) (h : Hp) : F_ref01_Product [I x, I y] h = some (.agg [U (x * y / 4611686018427387904), U (x * y % 4611686018427387904)], h) := by
  refine F_ref01_Product_run rfl ?_ h
  obtain ⟨p1, p2⟩ := prod_nat x y
  have b1 : x % 2147483648 < 2147483648 := Nat.mod_lt _ (by decide)
  have b2 : y % 2147483648 < 2147483648 := Nat.mod_lt _ (by decide)
  have b3 : x / 2147483648 < 2147483648 := by omega
  have b4 : y / 2147483648 < 2147483648 := by omega
  have m1 := mul31 b1 b2
  have m2 := mul31 b1 b4
  have m3 := mul31 b3 b2
  have m4 := mul31 b3 b4
  rw [← p1, ← p2]
  simp only [f_ref01_Product]
  rw [show ([] : Hp).length = 0 from rfl, effK_box 2 0 (.agg [.s (.int .u64 0), .s (.int .u64 0)]) [] _ rfl rfl rfl, convK_int un_3 un_99, convK_int un_3 un_99, wrapU (by omega) (by omega), wrapU (by omega) (by omega)]
  generalize hE : x % 2147483648 * (y % 2147483648) = E at *
  generalize hB : x % 2147483648 * (y / 2147483648) = B at *
  generalize hC : x / 2147483648 * (y % 2147483648) = C at *
  generalize hA : x / 2147483648 * (y / 2147483648) = A at *
  rw [mask31 x (by omega), mask31 y (by omega), u_mul _ _ (by omega), mask31 x (by omega), shr31 y, u_mul _ _ (by omega), hE, hB, shr31 E, u_add _ _ (by omega), shr31 x, mask31 y (by omega), u_mul _ _ (by omega), hC, mask31 _ (by omega), u_add _ _ (by omega), shr31 x, shr31 y, u_mul _ _ (by omega), hA, shr31, u_add _ _ (by omega), shr31, u_add _ _ (by omega),
    mask31 _ (by omega), shl31 _ (by omega), mask31 _ (by omega), or31 _ _ (by omega) (by omega)]
  simp [buildK, fillA]
end Go.AM


namespace Go.AM
open Go.Proofs
set_option linter.unusedVariables false
set_option linter.unusedSimpArgs false
set_option linter.constructorNameAsVariable false
set_option maxRecDepth 20000
abbrev Wd (n : Nat) : AV := .agg [U (n / 4611686018427387904), U (n % 4611686018427387904)]
theorem Less_core (a b c d : Nat) (h : Hp) : F_ref01_Less [.agg [U a, U b], .agg [U c, U d]] h = some (B (decide (a < c) || (decide (a = c) && decide (b < d))), h) := by
  refine F_ref01_Less_run rfl ?_ h
  have q1 : decide ((a : Int) < (c : Int)) = decide (a < c) := dec_ul a c
  have q2 : decide ((b : Int) < (d : Int)) = decide (b < d) := dec_ul b d
  have q3 : ((a : Int) == (c : Int)) = decide (a = c) := by rw [Bool.eq_iff_iff]; simp; omega
  simp only [f_ref01_Less]
  simp [boxE]
  simp [q3]
theorem F_ref01_Less_val (m n : Nat) (h : Hp) : F_ref01_Less [Wd m, Wd n] h = some (B (decide (m < n)), h) := by
  refine (Less_core _ _ _ _ h).trans ?_
  have e : (decide (m / 4611686018427387904 < n / 4611686018427387904) || (decide (m / 4611686018427387904 = n / 4611686018427387904) && decide (m % 4611686018427387904 < n % 4611686018427387904))) = decide (m < n) := by
    rw [Bool.eq_iff_iff]; simp; omega
  rw [e]
theorem F_ref01_minus_val (m n : Nat) (hm : m < 21267647932558653966460912964485513216) (hn : n ≤ m) (h : Hp) : F_ref01_minus [Wd m, Wd n] h = some (Wd (m - n), h) := by
  refine F_ref01_minus_run rfl ?_ h
  have k1 : m / 4611686018427387904 < 4611686018427387904 := by omega
  by_cases hl : m % 4611686018427387904 < n % 4611686018427387904
  · have e1 : (m - n) / 4611686018427387904 = m / 4611686018427387904 - n / 4611686018427387904 - 1 := by omega
    have e2 : (m - n) % 4611686018427387904 = m % 4611686018427387904 + 4611686018427387904 - n % 4611686018427387904 := by omega
    have k2 : n / 4611686018427387904 + 1 ≤ m / 4611686018427387904 := by omega
    have k3 : m % 4611686018427387904 < 4611686018427387904 := by omega
    have k4 : n % 4611686018427387904 < 4611686018427387904 := by omega
    simp only [Wd]
    rw [e1, e2]
    generalize m / 4611686018427387904 = a at *
    generalize m % 4611686018427387904 = b at *
    generalize n / 4611686018427387904 = c at *
    generalize n % 4611686018427387904 = d at *
    have q1 : decide ((b : Int) < (d : Int)) = true := by simp; omega
    have w1 : IntKind.u64.wrap ((a : Int) - (c : Int)) = ((a - c : Nat) : Int) := by rw [wrapU (by omega) (by omega)]; omega
    have w2 : IntKind.u64.wrap (((a - c : Nat) : Int) - 1) = ((a - c - 1 : Nat) : Int) := by rw [wrapU (by omega) (by omega)]; omega
    have w3 : IntKind.u64.wrap ((b : Int) + 4611686018427387904) = ((b + 4611686018427387904 : Nat) : Int) := by rw [wrapU (by omega) (by omega)]; omega
    have w4 : IntKind.u64.wrap (((b + 4611686018427387904 : Nat) : Int) - (d : Int)) = ((b + 4611686018427387904 - d : Nat) : Int) := by rw [wrapU (by omega) (by omega)]; omega
    simp only [f_ref01_minus]
    simp [boxE, buildK, fillA, hl, w1]
    simp [w2, w3]
    simpa using w4
  · have e1 : (m - n) / 4611686018427387904 = m / 4611686018427387904 - n / 4611686018427387904 := by omega
    have e2 : (m - n) % 4611686018427387904 = m % 4611686018427387904 - n % 4611686018427387904 := by omega
    have k2 : n / 4611686018427387904 ≤ m / 4611686018427387904 := by omega
    have k3 : m % 4611686018427387904 < 4611686018427387904 := by omega
    simp only [Wd]
    rw [e1, e2]
    generalize m / 4611686018427387904 = a at *
    generalize m % 4611686018427387904 = b at *
    generalize n / 4611686018427387904 = c at *
    generalize n % 4611686018427387904 = d at *
    have q1 : decide ((b : Int) < (d : Int)) = false := by simp; omega
    have w1 : IntKind.u64.wrap ((a : Int) - (c : Int)) = ((a - c : Nat) : Int) := by rw [wrapU (by omega) (by omega)]; omega
    have w2 : IntKind.u64.wrap ((b : Int) - (d : Int)) = ((b - d : Nat) : Int) := by rw [wrapU (by omega) (by omega)]; omega
    simp only [f_ref01_minus]
    simp [boxE, buildK, fillA, hl, w1, w2]
end Go.AM


namespace Go.AM
open Go.Proofs
set_option linter.unusedVariables false
set_option linter.unusedSimpArgs false
set_option linter.constructorNameAsVariable false
set_option maxRecDepth 20000
theorem G_ref01_Product_val (x y : Nat) (hx : x < 4611686018427387904) (hy : y < 4611686018427387904) (h : Hp) (base : Nat) : G_ref01_Product [I x, I y] h base = some (Wd (x * y), EF []) := (closedXD_val (F_ref01_Product_val x y hx hy h) base).trans (by simp [idss, ids])
theorem G_ref01_Less_val (m n : Nat) (h : Hp) (base : Nat) : G_ref01_Less [Wd m, Wd n] h base = some (B (decide (m < n)), EF []) := (closedXD_val (F_ref01_Less_val m n h) base).trans (by simp [idss, ids])
theorem G_ref01_minus_val (m n : Nat) (hm : m < 21267647932558653966460912964485513216) (hn : n ≤ m) (h : Hp) (base : Nat) : G_ref01_minus [Wd m, Wd n] h base = some (Wd (m - n), EF []) := (closedXD_val (F_ref01_minus_val m n hm hn h) base).trans (by simp [idss, ids])
section
variable {β : Type} {P : Program} {ty : TypeId}
theorem reck_half (a : Nat) (ha : a < 9223372036854775808) (k : K β) : reckK P .quo ty (I a) (I 2) k = k (I (a / 2 : Nat)) := by
  refine reck_of (s := Op.intDiv .quo .i64 a 2) rfl rfl rfl ?_ k
  have h1 : ¬ ((2 : Int) = 0) := by omega
  have h2 : ((a : Int)).tdiv 2 = ((a / 2 : Nat) : Int) := by rw [Int.tdiv_eq_ediv_of_nonneg (by omega)]; omega
  unfold Op.intDiv
  rw [if_neg h1]
  simp only [h2]
  rw [wrap64 (by omega) (by omega)]
variable {T : Tab} {D : DTab} {N : Nat} {x0 : AV → AV → AV → Hp → Option β}
theorem of_L2 (c most p Q : Nat) (pb : Nat) (h : Hp) (hpb : h[pb]? = some (.arr 2 [[U (p / 4611686018427387904), U (p % 4611686018427387904)]] true false)) (hc : c < 4611686018427387904) (hmost : most ≤ 128849018880000)
    (hQ1 : Q ≤ most) (hQ2 : Q * c ≤ p) (hQ3 : ∀ q, q ≤ most → q * c ≤ p → q ≤ Q) : ∀ (n j q : Nat), j ≤ 62 → j < n → q ≤ Q → Q < q + 2 ^ j →
    f_ref01_Of_L2 Try.prog T d_ref01_Of N x0 n (I c) (I most) (.ptr pb 0 0 1) (I q) (I (2 ^ j / 2 : Nat)) h = x0 (I c) (.ptr pb 0 0 1) (I Q) h := by
  intro n
  induction n with
  | zero => intro j q _ h1; omega
  | succ n ih =>
    intro j q hj hjn hq hlt
    have e0 : f_ref01_Of_L2 Try.prog T d_ref01_Of N x0 (n + 1) (I c) (I most) (.ptr pb 0 0 1) (I q) (I (2 ^ j / 2 : Nat)) h = f_ref01_Of_b2 Try.prog T d_ref01_Of N (f_ref01_Of_L2 Try.prog T d_ref01_Of N x0 n) x0 (I c) (I most) (.ptr pb 0 0 1) (I q) (I (2 ^ j / 2 : Nat)) h := rfl
    rw [e0]
    cases j with
    | zero =>
      have : Q = q := by omega
      subst this
      simp [f_ref01_Of_b2]
    | succ j =>
      have e1 : 2 ^ (j + 1) / 2 = 2 ^ j := by rw [Nat.pow_succ]; omega
      have e2 : 2 ^ (j + 1) = 2 ^ j + 2 ^ j := by rw [Nat.pow_succ]; omega
      have hb : 2 ^ j ≤ 2305843009213693952 := Nat.pow_le_pow_right (n := 2) (j := 61) (by omega) (by omega)
      have hpos : 0 < 2 ^ j := Nat.two_pow_pos j
      rw [e1]
      rw [e2] at hlt
      have step := ih j
      generalize hB : 2 ^ j = bit at *
      have w1 : IntKind.i64.wrap ((q : Int) + (bit : Int)) = ((q + bit : Nat) : Int) := by rw [wrap64 (by omega) (by omega)]; omega
      have c1 : (0 : Int) < (bit : Int) := by omega
      have half := fun k => reck_half (P := Try.prog) (ty := 3) (β := β) bit (by omega) k
      have gP := G_ref01_Product_val (q + bit) c (by omega) hc
      have gL := G_ref01_Less_val p ((q + bit) * c)
      simp only [Wd] at gP gL
      obtain ⟨q', hqb⟩ : ∃ q', q' = q + bit := ⟨_, rfl⟩
      rw [← hqb] at w1 gP gL
      by_cases k1 : q' ≤ most
      · have k1' : (q' : Int) ≤ (most : Int) := by omega
        by_cases k2 : p < (q') * c
        · have s2 := step q (by omega) (by omega) hq (by
            rcases Nat.lt_or_ge Q (q') with h1 | h1
            · omega
            · have := Nat.mul_le_mul_right c h1; omega)
          rw [← s2]
          simp only [f_ref01_Of_b2, arithK_gtr, arithK_add, arithK_leq, w1]
          simp [c1, hpos, k1', gopD_t, hpb, effD_y, callE_F, gP, gL, k2, disjAll, disj2, wrOf, idsOf, f_ref01_Of_j4, f_ref01_Of_j3, half, w1]
        · have s2 := step (q') (by omega) (by omega) (hQ3 _ k1 (by omega)) (by omega)
          rw [← s2]
          simp only [f_ref01_Of_b2, arithK_gtr, arithK_add, arithK_leq, w1]
          simp [c1, hpos, k1', gopD_t, hpb, effD_y, callE_F, gP, gL, k2, disjAll, disj2, wrOf, idsOf, f_ref01_Of_j4, f_ref01_Of_j3, half, w1]
      · have k1' : ¬ (q' : Int) ≤ (most : Int) := by omega
        have s2 := step q (by omega) (by omega) hq (by omega)
        rw [← s2]
        simp only [f_ref01_Of_b2, arithK_gtr, arithK_add, arithK_leq, w1]
        simp [c1, hpos, k1', gopD_f, disjAll, disj2, wrOf, idsOf, f_ref01_Of_j4, f_ref01_Of_j3, half]
end
end Go.AM


namespace Go.AM
open Go.Proofs
set_option linter.unusedVariables false
set_option linter.unusedSimpArgs false
set_option linter.constructorNameAsVariable false
set_option maxRecDepth 20000
theorem F_ref01_Of_val (a b c most : Nat) (ha : a < 4611686018427387904) (hb : b < 4611686018427387904) (hc0 : 0 < c) (hc : c < 4611686018427387904) (hm : most ≤ 128849018880000) (h : Hp) :
    F_ref01_Of [I a, I b, I c, I most] h = some (if a * b / c ≤ most then .tup [I (a * b / c : Nat), I (a * b % c : Nat), B true] else .tup [I 0, I 0, B false], h) := by
  refine F_ref01_Of_run rfl ?_ h
  have hp : a * b < 21267647932558653966460912964485513216 := by
    have : a * b ≤ 4611686018427387903 * 4611686018427387903 := Nat.mul_le_mul (by omega) (by omega)
    omega
  have fP := F_ref01_Product_val a b ha hb
  have gP := G_ref01_Product_val most c (by omega) hc
  have gL := G_ref01_Less_val (most * c) (a * b)
  have hdiv : c * (a * b / c) + a * b % c = a * b := Nat.div_add_mod _ _
  have hmod : a * b % c < c := Nat.mod_lt _ hc0
  generalize a * b = p at *
  have j1 : ∀ (pb : Nat) (hh : Hp), hh[pb]? = some (.arr 2 [[U (p / 4611686018427387904), U (p % 4611686018427387904)]] true false) → p / c ≤ most →
      f_ref01_Of_j1 Try.prog t_ref01_Of d_ref01_Of NN (fun v g => cvt false g v) (I c) (.ptr pb 0 0 1) (I (p / c : Nat)) hh = some (.tup [I (p / c : Nat), I (p % c : Nat), B true]) := by
    intro pb hh hpb hq
    have hle : p / c * c ≤ p := Nat.div_mul_le_self p c
    have g1 := G_ref01_Product_val (p / c) c (by omega) hc
    have g2 := G_ref01_minus_val p (p / c * c) hp hle
    have e : p - p / c * c = p % c := by rw [Nat.mul_comm]; omega
    rw [e] at g2
    have e2 : p % c % 4611686018427387904 = p % c := Nat.mod_eq_of_lt (by omega)
    have w1 : IntKind.i64.wrap ((p % c : Nat) : Int) = ((p % c : Nat) : Int) := wrap64 (by omega) (by omega)
    simp only [Wd] at g1 g2
    rw [e2] at g2
    have cv := fun k => convK_int (P := Try.prog) (n := ((p % c : Nat) : Int)) (ka := .u64) (β := AV) un_99 un_3 k
    rw [w1] at cv
    generalize p / c = Q at *
    generalize p % c = R at *
    simp [f_ref01_Of_j1, hpb, effD_y, callE_F, g1, g2, fldK, disjAll, disj2, wrOf, idsOf, cv]
  have L := fun (pb : Nat) (hh : Hp) (hpb : hh[pb]? = some (.arr 2 [[U (p / 4611686018427387904), U (p % 4611686018427387904)]] true false)) (hq : p / c ≤ most) =>
    (of_L2 (T := t_ref01_Of) (N := NN) (x0 := fun w84_2 w84_11 w84_12 h => f_ref01_Of_j1 Try.prog t_ref01_Of d_ref01_Of NN (fun v g => cvt false g v) w84_2 w84_11 w84_12 h) c most p (p / c) pb hh hpb hc hm hq (Nat.div_mul_le_self p c) (fun q _ h2 => (Nat.le_div_iff_mul_le hc0).2 h2) NN 62 0 (by omega) (by have := NN_ge; omega) (Nat.zero_le _) (by rw [Nat.zero_add]; exact Nat.lt_of_le_of_lt hq (Nat.lt_of_le_of_lt hm (by decide)))).trans (j1 pb hh hpb hq)
  simp only [Wd] at fP gP gL
  have cv2 : ∀ k : Go.AM.K AV, convK Try.prog 3 99 (I c) k = k (U c) := fun k => by rw [convK_int un_3 un_99, wrapU (by omega) (by omega)]
  by_cases k1 : most * c < p
  · have g3 := G_ref01_minus_val p (most * c) hp (by omega)
    have g4 := G_ref01_Less_val (p - most * c) c
    simp only [Wd] at g3 g4
    rw [Nat.div_eq_of_lt hc, Nat.mod_eq_of_lt hc] at g4
    have g4 : ∀ (h : Hp) (base : Nat), G_ref01_Less [.agg [U ((p - most * c) / 4611686018427387904), U ((p - most * c) % 4611686018427387904)], .agg [.s (.int .u64 0), U c]] h base = some (B (decide (p - most * c < c)), EF []) := g4
    by_cases k2 : p - most * c < c
    · have hq : p / c ≤ most := by
        have h1 : p < (most + 1) * c := by rw [Nat.add_mul]; omega
        have := (Nat.div_lt_iff_lt_mul hc0).2 h1
        omega
      rw [if_pos hq]
      refine Eq.trans ?_ (L 0 [.arr 2 [[U (p / 4611686018427387904), U (p % 4611686018427387904)]] true false] rfl hq)
      generalize p / 4611686018427387904 = ph at *
      generalize p % 4611686018427387904 = pl at *
      simp [f_ref01_Of, fP, boxE, effD_y, callE_F, gP, gL, k1, gopD_t, g3, g4, buildK, fillA, cv2, k2, disjAll, disj2, wrOf, idsOf]
    · have hq : ¬ p / c ≤ most := by
        intro hq
        have h1 : p < (most + 1) * c := (Nat.div_lt_iff_lt_mul hc0).1 (by omega)
        rw [Nat.add_mul] at h1; omega
      rw [if_neg hq]
      generalize p / 4611686018427387904 = ph at *
      generalize p % 4611686018427387904 = pl at *
      simp [f_ref01_Of, fP, boxE, effD_y, callE_F, gP, gL, k1, gopD_t, g3, g4, buildK, fillA, cv2, k2, disjAll, disj2, wrOf, idsOf]
  · have hq : p / c ≤ most := by
      have h1 : p < (most + 1) * c := by rw [Nat.add_mul]; omega
      have := (Nat.div_lt_iff_lt_mul hc0).2 h1
      omega
    rw [if_pos hq]
    refine Eq.trans ?_ (L 0 [.arr 2 [[U (p / 4611686018427387904), U (p % 4611686018427387904)]] true false] rfl hq)
    generalize p / 4611686018427387904 = ph at *
    generalize p % 4611686018427387904 = pl at *
    simp [f_ref01_Of, fP, boxE, effD_y, callE_F, gP, gL, k1, gopD_f, disjAll, disj2, wrOf, idsOf]
end Go.AM


namespace Go.AM
open Go.Proofs
set_option linter.unusedVariables false
set_option linter.unusedSimpArgs false
set_option linter.constructorNameAsVariable false
set_option maxRecDepth 20000
theorem F_ref01_Proportion_val (a b c : Nat) (ha : a < 4611686018427387904) (hb : b < 4611686018427387904) (hc0 : 0 < c) (hc : c < 4611686018427387904) (h : Hp) :
    F_ref01_Proportion [I a, I b, I c] h = some (if a * b / c ≤ 128849018880000 then .tup [I (a * b / c : Nat), I (a * b % c : Nat)] else .tup [I 0, I 0], h) := by
  refine F_ref01_Proportion_run rfl ?_ h
  have fO : ∀ h : Hp, F_ref01_Of [I a, I b, I c, I 128849018880000] h = _ := F_ref01_Of_val a b c 128849018880000 ha hb hc0 hc (Nat.le_refl _)
  generalize a * b / c = q at *
  generalize a * b % c = r at *
  by_cases hq : q ≤ 128849018880000
  · simp [f_ref01_Proportion, fO, hq]
  · simp [f_ref01_Proportion, fO, hq]
end Go.AM


namespace Go.AM
open Go.Proofs
set_option linter.unusedVariables false
set_option linter.unusedSimpArgs false
set_option linter.constructorNameAsVariable false
set_option maxRecDepth 20000
def bub : List Ln → Ln → List Ln → List Ln
  | [], x, B => x :: B
  | y :: A, x, B => if x.id < y.id then bub A x (y :: B) else (y :: A).reverse ++ x :: B
def insE (o : List Ln) (x : Ln) : List Ln := bub o.reverse x []
def lineR (sent got : List Gd) (tol : List Int) (g : Gd) : Ln := ⟨g.id, g.cls, (findG sent g.id).alc, (findG got g.id).alc, lossL (findG sent g.id).alc (findG got g.id).alc ((findG sent g.id).alc * tolAt tol g.cls / 10000) 0⟩
def allG (sent got : List Gd) : List Gd := sent ++ got.filter fun g => (findG sent g.id).id == 0
def clashR (sent got : List Gd) : Bool := sent.any fun g => (findG got g.id).id != 0 && (findG got g.id).cls != g.cls
section
variable {β : Type} {P : Program} {T : Tab} {D : DTab} {N : Nat} {K : AV → Hp → Option β}
theorem bub_length : ∀ (A : List Ln) (x : Ln) (B : List Ln), (bub A x B).length = A.length + 1 + B.length
  | [], x, B => by simp [bub]; omega
  | y :: A, x, B => by
    rw [bub]
    split
    · rw [bub_length A]; simp; omega
    · simp; omega
theorem ref44_L8 {x8 : AV → AV → AV → AV → AV → AV → Hp → Option β} {v0 v1 v2 v11 v14 : AV} {q m : Nat} : ∀ (n : Nat) (A : List Ln) (x : Ln) (B : List Ln) (h : Hp), A.length < n → m = A.length + 1 + B.length → m < 1000000 → h[q]? = some (.arr 8 ((A.reverse ++ x :: B).map encLn) true false) →
    f_ref44_Compare_L8 Try.prog T D N x8 n v0 v1 v2 v11 (.sl 8 q 0 m m false) v14 (I A.length) h = x8 v0 v1 v2 v11 (.sl 8 q 0 m m false) v14 (h.set q (.arr 8 ((bub A x B).map encLn) true false)) := by
  intro n
  induction n with
  | zero => intro A x B h h1; omega
  | succ n ih =>
    intro A x B h hn hm hm2 hq
    show f_ref44_Compare_b8 Try.prog T D N (f_ref44_Compare_L8 Try.prog T D N x8 n) x8 _ _ _ _ _ _ _ h = _
    have hql := (List.getElem?_eq_some_iff.1 hq).1
    have hself : h.set q (.arr 8 ((A.reverse ++ x :: B).map encLn) true false) = h := by
      apply List.ext_getElem?
      intro i
      by_cases hi : q = i
      · subst hi; rw [List.getElem?_set_self hql, hq]
      · rw [List.getElem?_set_ne hi]
    cases A with
    | nil =>
      simp only [List.reverse_nil, List.nil_append] at hself hq
      rw [bub, hself]
      simp [f_ref44_Compare_b8]
    | cons y A =>
      have hyA : (y :: A).length = A.length + 1 := rfl
      have hlen : ((y :: A).reverse ++ x :: B).length = m := by simp at hm ⊢; omega
      have gy : ((y :: A).reverse ++ x :: B)[A.length]? = some y := by simp
      have gx : ((y :: A).reverse ++ x :: B)[A.length + 1]? = some x := by
        rw [List.getElem?_append_right (by simp)]; simp
      have w1 : IntKind.i64.wrap (((y :: A).length : Int) - 1) = (A.length : Int) := by rw [wrap64 (by omega) (by omega)]; simp
      have h0 : (0 : Int) < ((y :: A).length : Int) := by omega
      have i1 : ∀ k : Go.AM.K β, iaK 8 (.sl 8 q 0 m m false) (I (A.length : Nat)) k = k (.ptr q A.length 0 m) := fun k => by rw [iaK_sl (by omega) (by omega)]; simp
      have i2 : ∀ k : Go.AM.K β, iaK 8 (.sl 8 q 0 m m false) (I ((y :: A).length : Nat)) k = k (.ptr q (A.length + 1) 0 m) := fun k => by rw [iaK_sl (by omega) (by omega)]; simp
      have l1 : ∀ k : Go.AM.K β, ldK 1 false (.ptr q A.length (0 + 0) m) h k = k (I y.id) := fun k => by simp only [ldK_ptr, hq, List.length_map, hlen, if_true, List.getElem?_map, gy, Option.map_some, pickC, Bool.false_eq_true, if_false]; rfl
      have l2 : ∀ k : Go.AM.K β, ldK 1 false (.ptr q (A.length + 1) (0 + 0) m) h k = k (I x.id) := fun k => by simp only [ldK_ptr, hq, List.length_map, hlen, if_true, List.getElem?_map, gx, Option.map_some, pickC, Bool.false_eq_true, if_false]; rfl
      simp only [f_ref44_Compare_b8, arithK_gtr, h0, decide_true, grpK_tt, arithK_sub, w1, i1, i2, faK_ptr, l1, l2, condK_bool, decide_eq_true_eq]
      rw [bub]
      by_cases hxy : x.id < y.id
      · rw [if_pos hxy, if_pos hxy]
        have m1 : ∀ k : Go.AM.K β, ldK 8 true (.ptr q A.length 0 m) h k = k (.agg (encLn y)) := fun k => by simp only [ldK_ptr, hq, List.length_map, hlen, if_true, List.getElem?_map, gy, Option.map_some, pickC]; rfl
        have m2 : ∀ k : Go.AM.K β, ldK 8 true (.ptr q (A.length + 1) 0 m) h k = k (.agg (encLn x)) := fun k => by simp only [ldK_ptr, hq, List.length_map, hlen, if_true, List.getElem?_map, gx, Option.map_some, pickC]; rfl
        have e1 : ((y :: A).reverse ++ x :: B).set A.length x = A.reverse ++ x :: x :: B := by
          rw [List.set_append_left _ _ (by simp)]
          have : (y :: A).reverse.set A.length x = A.reverse ++ [x] := by
            rw [List.reverse_cons, List.set_append_right _ _ (by simp)]; simp
          rw [this]; simp
        have e2 : (A.reverse ++ x :: x :: B).set (A.length + 1) y = A.reverse ++ x :: y :: B := by
          rw [List.set_append_right _ _ (by simp)]; simp
        have hq1 : (h.set q (.arr 8 ((A.reverse ++ x :: x :: B).map encLn) true false))[q]? = some (.arr 8 ((A.reverse ++ x :: x :: B).map encLn) true false) := List.getElem?_set_self hql
        have hl1 : (A.reverse ++ x :: x :: B).length = m := by simp; simp at hm; omega
        have gx1 : (A.reverse ++ x :: x :: B)[A.length + 1]? = some x := by rw [List.getElem?_append_right (by simp)]; simp
        have s1 : ∀ k : AV → Hp → Option β, effK (stE 8 (.ptr q A.length 0 m) (.agg (encLn x)) h) h k = k .u (h.set q (.arr 8 ((A.reverse ++ x :: x :: B).map encLn) true false)) := fun k => by
          rw [stE_ptr, hq]
          simp only [List.length_map, hlen, List.getElem?_map, gy, Option.map_some]
          rw [← e1, List.map_set]
          simp [encLn, effK, ap]
        have s2 : ∀ k : AV → Hp → Option β, effK (stE 8 (.ptr q (A.length + 1) 0 m) (.agg (encLn y)) (h.set q (.arr 8 ((A.reverse ++ x :: x :: B).map encLn) true false))) (h.set q (.arr 8 ((A.reverse ++ x :: x :: B).map encLn) true false)) k = k .u (h.set q (.arr 8 ((A.reverse ++ x :: y :: B).map encLn) true false)) := fun k => by
          rw [stE_ptr, hq1]
          simp only [List.length_map, hl1, List.getElem?_map, gx1, Option.map_some]
          rw [← e2, List.map_set]
          simp [encLn, effK, ap]
        simp only [m1, m2, s1, s2]
        have step := ih A x (y :: B) (h.set q (.arr 8 ((A.reverse ++ x :: y :: B).map encLn) true false)) (by simpa using hn) (by simp at hm ⊢; omega) hm2 (List.getElem?_set_self hql)
        rw [step, List.set_set]
      · rw [if_neg hxy, if_neg hxy, hself]
theorem ref44_L13 {x0 : AV → AV → AV → Hp → Option β} {xr : AV → AV → Hp → Option β} {v0 v1 : AV} (tol : List Int) (b : Bool) (h : Hp) (hl : tol.length < 1000000) : ∀ (n : Nat) (pre post : List Int), tol = pre ++ post → post.length < n →
    f_ref44_Compare_L13 P T D N x0 xr n v0 v1 (.lst 1 b (tol.map encI)) (I pre.length) h = if (post.any fun n => !win n 0 10000) = true then xr nilS (I 2) h else x0 v0 v1 (.lst 1 b (tol.map encI)) h := by
  intro n
  induction n with
  | zero => intro pre post _ h2; omega
  | succ n ih =>
    intro pre post hc hn
    show f_ref44_Compare_b13 P T D N (f_ref44_Compare_L13 P T D N x0 xr n) x0 xr _ _ _ _ h = _
    have ln : ∀ k : Go.AM.K β, lenK (.lst 1 b (tol.map encI)) k = k (I tol.length) := fun k => by simp
    cases post with
    | nil =>
      have : tol = pre := by simpa using hc
      subst this
      simp [f_ref44_Compare_b13]
    | cons c post =>
      have hi : pre.length < tol.length := by rw [hc]; simp
      have hci : tol[pre.length]? = some c := by rw [hc]; simp
      have hlt : ((pre.length : Int) < (tol.length : Int)) := by omega
      have hw : IntKind.i64.wrap ((pre.length : Int) + 1) = (((pre ++ [c]).length : Nat) : Int) := by rw [wrap64 (by omega) (by omega)]; simp
      have ic : ∀ k : Go.AM.K β, iaK 1 (.lst 1 b (tol.map encI)) (I pre.length) k = k (.ep (encI c) 0) := fun k => iaK_at pre.length rfl hci k
      have lc : ∀ k : Go.AM.K β, ldK 1 false (.ep (encI c) 0) h k = k (I c) := fun k => by simp
      have step := ih (pre ++ [c]) post (by simpa using hc) (by simpa using hn)
      have e : (decide (c < 0) || decide (10000 < c)) = !win c 0 10000 := by simp [win]; by_cases a : c < 0 <;> by_cases b : 10000 < c <;> simp [a, b] <;> omega
      rw [List.any_cons]
      simp only [f_ref44_Compare_b13, ln, arithK_lss, hlt, decide_true, condK_bool, if_true, ic, lc, arithK_gtr, grpK_or, e]
      cases win c 0 10000 with
      | false => simp
      | true => simp only [Bool.not_true, Bool.false_eq_true, if_false, Bool.false_or, arithK_add, hw]; exact step
theorem ref44_L12 (hT : T 43 = some F_ref44_find) {x2 : AV → AV → AV → Hp → Option β} {xr : AV → AV → Hp → Option β} {v2 : AV} {X Y : Option β} (sent got : List Gd) (b1 b2 : Bool) (hx : ∀ h, x2 (.lst 3 b1 (sent.map encG)) (.lst 3 b2 (got.map encG)) v2 h = X) (hr : ∀ h, xr nilS (I 18) h = Y) (hl : sent.length < 1000000) (hl2 : got.length < 1000000) : ∀ (n : Nat) (pre post : List Gd) (h : Hp), sent = pre ++ post → post.length < n →
    f_ref44_Compare_L12 P T D N x2 xr n (.lst 3 b1 (sent.map encG)) (.lst 3 b2 (got.map encG)) v2 (I pre.length) h = if clashR post got = true then Y else X := by
  intro n
  induction n with
  | zero => intro pre post h _ h2; omega
  | succ n ih =>
    intro pre post h hc hn
    show f_ref44_Compare_b12 P T D N (f_ref44_Compare_L12 P T D N x2 xr n) x2 xr _ _ _ _ h = _
    have ln : ∀ k : Go.AM.K β, lenK (.lst 3 b1 (sent.map encG)) k = k (I sent.length) := fun k => by simp
    cases post with
    | nil =>
      have : sent = pre := by simpa using hc
      subst this
      simp [f_ref44_Compare_b12, hx, clashR]
    | cons c post =>
      have hi : pre.length < sent.length := by rw [hc]; simp
      have hci : sent[pre.length]? = some c := by rw [hc]; simp
      have hlt : ((pre.length : Int) < (sent.length : Int)) := by omega
      have hw : IntKind.i64.wrap ((pre.length : Int) + 1) = (((pre ++ [c]).length : Nat) : Int) := by rw [wrap64 (by omega) (by omega)]; simp
      have ic : ∀ k : Go.AM.K β, iaK 3 (.lst 3 b1 (sent.map encG)) (I pre.length) k = k (.ep (encG c) 0) := fun k => iaK_at pre.length rfl hci k
      have ff := F_ref44_find_val got b2 c.id hl2
      have step := ih (pre ++ [c]) post (h ++ [.arr 3 [encG (findG got c.id)] true false]) (by simpa using hc) (by simpa using hn)
      have e : clashR (c :: post) got = ((findG got c.id).id != 0 && (findG got c.id).cls != c.cls || clashR post got) := rfl
      rw [e]
      simp only [f_ref44_Compare_b12, ln, arithK_lss, hlt, decide_true, condK_bool, if_true, ic]
      generalize got.map encG = LG at *
      generalize sent.map encG = LS at *
      generalize findG got c.id = f at *
      by_cases q1 : f.id = 0
      · simp only [encG] at ff step ⊢
        simp [hT, ff, boxE, stE, ap, q1, hw] at step ⊢
        exact step
      · by_cases q2 : f.cls = c.cls
        · simp only [encG] at ff step ⊢
          simp [hT, ff, boxE, stE, ap, q1, q2, hw] at step ⊢
          exact step
        · have q1' : (f.id == 0) = false := by simpa using q1
          have q2' : (f.cls == c.cls) = false := by simpa using q2
          simp only [encG] at ff ⊢
          simp [hT, ff, boxE, stE, ap, q1, q2, q1', q2', hr, bne]
end
end Go.AM


namespace Go.AM
open Go.Proofs
set_option linter.unusedVariables false
set_option linter.unusedSimpArgs false
set_option linter.constructorNameAsVariable false
set_option maxRecDepth 20000
section
variable {β : Type} {P : Program} {T : Tab} {D : DTab} {N : Nat} {K : AV → Hp → Option β}
theorem ref44_L9 (hT : T 43 = some F_ref44_find) {x4 : AV → AV → AV → AV → Hp → Option β} {v2 : AV} {X : Option β} (sent got : List Gd) (b1 b2 : Bool) (hl : sent.length < 1000) (hl2 : got.length < 1000)
    (hx : ∀ (h : Hp) (v : AV), Grm 3 encG h v (allG sent got) → x4 (.lst 3 b1 (sent.map encG)) (.lst 3 b2 (got.map encG)) v2 v h = X) : ∀ (n : Nat) (pre post : List Gd) (o : List Gd) (v : AV) (h : Hp), got = pre ++ post → post.length < n → Grm 3 encG h v o → o.length + post.length < 10000 → (o ++ post.filter fun g => (findG sent g.id).id == 0) = allG sent got →
    f_ref44_Compare_L9 P T D N x4 n (.lst 3 b1 (sent.map encG)) (.lst 3 b2 (got.map encG)) v2 v (I pre.length) h = X := by
  intro n
  induction n with
  | zero => intro pre post o v h _ h2; omega
  | succ n ih =>
    intro pre post o v h hc hn hO hol hall
    show f_ref44_Compare_b9 P T D N (f_ref44_Compare_L9 P T D N x4 n) x4 _ _ _ _ _ h = _
    have ln : ∀ k : Go.AM.K β, lenK (.lst 3 b2 (got.map encG)) k = k (I got.length) := fun k => by simp
    cases post with
    | nil =>
      have : got = pre := by simpa using hc
      subst this
      have : o = allG sent got := by simpa using hall
      subst this
      simp [f_ref44_Compare_b9, hx h v hO]
    | cons c post =>
      have hi : pre.length < got.length := by rw [hc]; simp
      have hci : got[pre.length]? = some c := by rw [hc]; simp
      have hlt : ((pre.length : Int) < (got.length : Int)) := by omega
      have hw : IntKind.i64.wrap ((pre.length : Int) + 1) = (((pre ++ [c]).length : Nat) : Int) := by rw [wrap64 (by omega) (by omega)]; simp
      have ic : ∀ k : Go.AM.K β, iaK 3 (.lst 3 b2 (got.map encG)) (I pre.length) k = k (.ep (encG c) 0) := fun k => iaK_at pre.length rfl hci k
      have ff := F_ref44_find_val sent b1 c.id (by omega)
      simp only [List.length_cons] at hol
      simp only [f_ref44_Compare_b9, ln, arithK_lss, hlt, decide_true, condK_bool, if_true, ic]
      rw [List.filter_cons] at hall
      have f0 : ∀ k : Go.AM.K β, faK 0 (.ep (encG c) 0) k = k (.ep (encG c) (0 + 0)) := fun k => rfl
      have l0 : ∀ k : Go.AM.K β, ldK 1 false (.ep (encG c) (0 + 0)) h k = k (I c.id) := fun k => rfl
      have l3 : ∀ k : Go.AM.K β, ldK 3 true (.ep (encG c) 0) h k = k (.agg (encG c)) := fun k => by simp [encG]
      rw [f0, l0, hT, callK_F, ff]
      simp only [l3]
      generalize findG sent c.id = f at *
      have fi : ∀ k : Go.AM.K β, fldK 1 false 0 (.agg (encG f)) k = k (I f.id) := fun k => rfl
      rw [fi, eqK_int, Bool.false_xor, condK_bool]
      by_cases q : f.id = 0
      · have q' : (f.id == 0) = true := by simpa using q
        rw [q', if_pos rfl]
        rw [q', if_pos rfl] at hall
        obtain ⟨k0, hk0, hk1⟩ := hO.lt
        obtain ⟨v', e, q1, q2, q3, q4, q5, -, -⟩ := Grm.snocE (hO.app [.arr 3 [encG c] true false]) (by_ := 24) (m := h.length) (z := c) (b := true) (by rw [get_new0]; rfl) (fun hk => by rw [hk0] at hk; injection hk; omega) (fun x _ => rfl) (by omega)
        have step := ih (pre ++ [c]) post (o ++ [c]) v' (ap (h ++ [.arr 3 [encG c] true false]) e) (by simpa using hc) (by simpa using hn) q2 (by simp; omega) (by simpa using hall)
        rw [← step]
        have bs : ∀ k : AV → Hp → Option β, effK (bsE 3 [I 0, I 0, I 0] 1 [(0, .agg (encG c))] (List.length h)) h k = k (.sl 3 h.length 0 1 1 true) (h ++ [.arr 3 [encG c] true false]) := fun k => by simp [bsE, fillS, encG]
        rw [bs, q1, effK_some]
        simp only [f_ref44_Compare_j11, f_ref44_Compare_j10, arithK_add, hw]
      · have q' : (f.id == 0) = false := by simpa using q
        rw [q', if_neg (by simp)]
        rw [q', if_neg (by simp)] at hall
        have step := ih (pre ++ [c]) post o v h (by simpa using hc) (by simpa using hn) hO (by omega) hall
        rw [← step]
        simp only [f_ref44_Compare_j11, f_ref44_Compare_j10, arithK_add, hw]
theorem ref44_L5 {N : Nat} (hN : 10000 < N) {x6 : AV → Hp → Option β} {X : List Ln → Option β} (sent got : List Gd) (tol : List Int) (b1 b2 b3 : Bool) (hl : sent.length < 1000) (hl2 : got.length < 1000) (ht : okTol tol) (all : List Gd) (qa : Nat) (ba : Bool) (hla : all.length < 2000)
    (hg1 : ∀ g ∈ sent, badG g = false) (hg2 : ∀ g ∈ got, badG g = false) (hga : ∀ g ∈ all, badG g = false)
    (hx : ∀ (h : Hp) (v : AV) (o : List Ln), Grm 8 encLn h v o → x6 v h = X o) : ∀ (n : Nat) (pre post : List Gd) (o : List Ln) (v : AV) (h : Hp), all = pre ++ post → post.length < n → h[qa]? = some (.arr 3 (all.map encG) true false) → Grm 8 encLn h v o → idOf v ≠ some qa → o.length = pre.length →
    f_ref44_Compare_L5 Try.prog t_ref44_Compare d_ref44_Compare N x6 n (.lst 3 b1 (sent.map encG)) (.lst 3 b2 (got.map encG)) (.lst 1 b3 (tol.map encI)) (.sl 3 qa 0 all.length all.length ba) v (I pre.length) h = X (post.foldl (fun o g => insE o (lineR sent got tol g)) o) := by
  intro n
  induction n with
  | zero => intro pre post o v h _ h2; omega
  | succ n ih =>
    intro pre post o v h hc hn hqa hO hvq hol
    show f_ref44_Compare_b5 Try.prog t_ref44_Compare d_ref44_Compare N (f_ref44_Compare_L5 Try.prog t_ref44_Compare d_ref44_Compare N x6 n) x6 _ _ _ _ _ _ h = _
    cases post with
    | nil =>
      have : all = pre := by simpa using hc
      subst this
      simp [f_ref44_Compare_b5, hx h v o hO]
    | cons c post =>
      have hi : pre.length < all.length := by rw [hc]; simp
      have hci : all[pre.length]? = some c := by rw [hc]; simp
      have hlt : ((pre.length : Int) < (all.length : Int)) := by omega
      have hw : IntKind.i64.wrap ((pre.length : Int) + 1) = (((pre ++ [c]).length : Nat) : Int) := by rw [wrap64 (by omega) (by omega)]; simp
      have ia : ∀ k : Go.AM.K β, iaK 3 (.sl 3 qa 0 all.length all.length ba) (I pre.length) k = k (.ptr qa pre.length 0 all.length) := fun k => by rw [iaK_sl (by omega) (by omega)]; simp
      have hqh : ∀ g, (h ++ g)[qa]? = some (.arr 3 (all.map encG) true false) := fun g => get_app hqa
      have l0 : ∀ k : Go.AM.K β, ldK 1 false (.ptr qa pre.length (0 + 0) all.length) h k = k (I c.id) := fun k => by simp only [ldK_ptr, hqa, List.length_map, if_true, List.getElem?_map, hci, Option.map_some, pickC, Bool.false_eq_true, if_false]; rfl
      have l1 : ∀ k : Go.AM.K β, ldK 1 false (.ptr qa pre.length (0 + 1) all.length) h k = k (I c.cls) := fun k => by simp only [ldK_ptr, hqa, List.length_map, if_true, List.getElem?_map, hci, Option.map_some, pickC, Bool.false_eq_true, if_false]; rfl
      have qlt : qa < h.length := (List.getElem?_eq_some_iff.1 hqa).1
      have g1 := G_ref44_find_val sent b1 c.id (by omega)
      have g2 := G_ref44_find_val got b2 c.id (by omega)
      have one : ∀ g, badG g = false → (0 ≤ g.alc ∧ g.alc ≤ 10737418240000) ∧ (1 ≤ g.cls ∧ g.cls ≤ 9) := fun g hg => by simp [badG, win] at hg; omega
      have fb : ∀ (l : List Gd) (id : Int), (∀ g ∈ l, badG g = false) → 0 ≤ (findG l id).alc ∧ (findG l id).alc ≤ 10737418240000 := fun l id hb => by
        unfold findG
        cases hf : l.find? (fun g => g.id == id) with
        | none => exact ⟨by decide, by decide⟩
        | some g => exact (one g (hb g (List.mem_of_find?_eq_some hf))).1
      have s1 := fb sent c.id hg1
      have s2 := fb got c.id hg2
      have cc := (one c (hga c (by rw [hc]; simp))).2
      obtain ⟨t1, t2, t3⟩ := tolAt_bd ht cc.1 cc.2
      have tk : ∀ k : Go.AM.K β, iaK 1 (.lst 1 b3 (tol.map encI)) (I (c.cls - 1)) k = k (.ep (encI (tolAt tol c.cls)) 0) := fun k => iaK_at (c.cls - 1).toNat (by omega) t1 k
      have wc : IntKind.i64.wrap (c.cls - 1) = c.cls - 1 := wrap64 (by omega) (by omega)
      have hlr : lineR sent got tol c = ⟨c.id, c.cls, (findG sent c.id).alc, (findG got c.id).alc, lossL (findG sent c.id).alc (findG got c.id).alc ((findG sent c.id).alc * tolAt tol c.cls / 10000) 0⟩ := rfl
      rw [List.foldl_cons, hlr]
      generalize findG sent c.id = fs at *
      generalize findG got c.id = fg at *
      generalize tolAt tol c.cls = tl at *
      obtain ⟨x, hx0⟩ := Int.eq_ofNat_of_zero_le s1.1
      obtain ⟨y, hy0⟩ := Int.eq_ofNat_of_zero_le t2
      have hprod : fs.alc * tl / 10000 = ((x * y / 10000 : Nat) : Int) := by rw [hx0, hy0, Int.natCast_ediv, Int.natCast_mul]; rfl
      have hxy : x * y ≤ 10737418240000 * 10000 := Nat.mul_le_mul (by omega) (by omega)
      have hq : x * y / 10000 ≤ 10737418240000 := by omega
      have fp := F_ref01_Proportion_val x y 10000 (by omega) (by omega) (by omega) (by omega)
      rw [if_pos (by omega)] at fp
      have fo := F_ref32_Of_val fs.alc fg.alc ((x * y / 10000 : Nat) : Int) 0 s1 s2 (by omega) ⟨by omega, by omega⟩
      rw [hprod]
      have fp' : ∀ h : Hp, F_ref01_Proportion [I fs.alc, I tl, I 10000] h = some (.tup [I (x * y / 10000 : Nat), I (x * y % 10000 : Nat)], h) := by rw [hx0, hy0]; exact fp
      generalize ((x * y / 10000 : Nat) : Int) = al at *
      generalize lossL fs.alc fg.alc al 0 = lo at *
      clear fp hprod
      obtain ⟨z, hz⟩ : ∃ z : Ln, z = ⟨c.id, c.cls, fs.alc, fg.alc, lo⟩ := ⟨_, rfl⟩
      rw [← hz]
      have hze : encLn z = [I c.id, I c.cls, I fs.alc, I fg.alc, I lo.ev, I lo.op, I lo.df, I lo.su] := by rw [hz]; rfl
      obtain ⟨k0, hk0, hk1⟩ := hO.lt
      obtain ⟨v', e, q1, q2, q3, q4, q5, -, -⟩ := Grm.snocE (hO.app [.arr 8 [encLn z] true false, .arr 8 [encLn z] true false]) (by_ := 64) (m := h.length + 1) (z := z) (b := true) (by rw [get_new]; rfl) (fun hk => by rw [hk0] at hk; injection hk; omega) (fun x _ => rfl) (by omega)
      obtain ⟨h4, hh4⟩ : ∃ h4, h4 = ap (h ++ [.arr 8 [encLn z] true false, .arr 8 [encLn z] true false]) e := ⟨_, rfl⟩
      rw [← hh4] at q2 q3 q4
      obtain ⟨q, bq, rfl, hq1, hq2⟩ := q2
      have hbq : bq = false := by
        cases bq with
        | false => rfl
        | true => have := hq2 rfl; simp at this
      subst hbq
      have qlt4 : q < h4.length := (List.getElem?_eq_some_iff.1 hq1).1
      have hqne : q ≠ qa := by
        rintro rfl
        rcases q5 with e | e
        · rw [← e] at hvq; exact hvq rfl
        · simp at e; omega
      have L8 := ref44_L8 (β := β) (T := t_ref44_Compare) (D := d_ref44_Compare) (N := N) (x8 := fun w101_0 w101_1 w101_2 w101_11 w101_13 w101_14 h => f_ref44_Compare_j7 Try.prog t_ref44_Compare d_ref44_Compare N (f_ref44_Compare_L5 Try.prog t_ref44_Compare d_ref44_Compare N x6 n) x6 w101_0 w101_1 w101_2 w101_11 w101_13 w101_14 h) (v0 := .lst 3 b1 (sent.map encG)) (v1 := .lst 3 b2 (got.map encG)) (v2 := .lst 1 b3 (tol.map encI)) (v11 := .sl 3 qa 0 all.length all.length ba) (v14 := I pre.length) (q := q) (m := (o ++ [z]).length) N o.reverse z [] h4 (by simp; omega) (by simp) (by simp; omega) (by simpa using hq1)
      have hins : bub o.reverse z [] = insE o z := rfl
      have hinl : (insE o z).length = (o ++ [z]).length := by rw [← hins, bub_length]; simp
      rw [hins] at L8
      have step := ih (pre ++ [c]) post (insE o z) (.sl 8 q 0 (o ++ [z]).length (o ++ [z]).length false) (h4.set q (.arr 8 ((insE o z).map encLn) true false)) (by simpa using hc) (by simpa using hn)
        (getSet (q4 qa _ (hqh _) hvq) hqne) ⟨q, false, by rw [hinl], List.getElem?_set_self qlt4, by simp⟩ (by simp [hqne]) (by rw [hinl]; simp [hol])
      rw [← step]
      have hlen0 : ∀ k : Go.AM.K β, lenK (.sl 3 qa 0 all.length all.length ba) k = k (I all.length) := fun k => by simp
      have hlenv : ∀ k : Go.AM.K β, lenK v k = k (I o.length) := fun k => hO.len k
      have hjn : ∀ v0 v1 v2 v11 v13 v14 h, f_ref44_Compare_j7 Try.prog t_ref44_Compare d_ref44_Compare N (f_ref44_Compare_L5 Try.prog t_ref44_Compare d_ref44_Compare N x6 n) x6 v0 v1 v2 v11 v13 v14 h = arithK .add v14 (I 1) fun x22 => f_ref44_Compare_L5 Try.prog t_ref44_Compare d_ref44_Compare N x6 n v0 v1 v2 v11 v13 x22 h := fun _ _ _ _ _ _ _ => rfl
      simp only [List.length_reverse] at L8
      refine Eq.trans ?_ (L8.trans (by rw [hjn, arithK_add, hw]))
      clear L8 step hjn ih hx hq1 q4 q5 hins
      generalize sent.map encG = LS at *
      generalize got.map encG = LG at *
      generalize tol.map encI = LT at *
      simp only [f_ref44_Compare_b5, hlen0, arithK_lss, hlt, decide_true, condK_bool, if_true, ia, faK_ptr, l0, l1]
      simp only [encG] at g1 g2
      simp only [encO] at fo
      have hne1 : ¬ h.length = qa := by omega
      have hne2 : ¬ qa = h.length := by omega
      have hca : (all.map encG)[pre.length]? = some [I c.id, I c.cls, I c.alc] := by rw [List.getElem?_map, hci]; rfl
      have hla2 : (all.map encG).length = all.length := by simp
      clear l0 l1
      generalize all.map encG = LA at *
      rw [hze] at q1 hh4
      rw [hh4]
      simp at q1
      simp [g1, g2, ap_none, hqa, hqh, hca, hla2, fldK, buildK, fillA, boxE, stE, disjAll, disj2, idsOf, wrOf, hne1, hne2, ia, wc, tk, fp', fo, hlenv, bsE, fillS, q1]
      done
end
end Go.AM


namespace Go.AM
open Go.Proofs
set_option linter.unusedVariables false
set_option linter.unusedSimpArgs false
set_option linter.constructorNameAsVariable false
set_option maxRecDepth 20000
def sLn (l : List Ln) : Prop := l.Pairwise fun a b => a.id < b.id
theorem sorted_ext : ∀ {l m : List Ln}, sLn l → sLn m → (∀ x, x ∈ l ↔ x ∈ m) → l = m
  | [], [], _, _, _ => rfl
  | [], b :: m, _, _, h => by have := (h b).2 (by simp); simp at this
  | a :: l, [], _, _, h => by have := (h a).1 (by simp); simp at this
  | a :: l, b :: m, h1, h2, h => by
    obtain ⟨p1, p2⟩ := List.pairwise_cons.1 h1
    obtain ⟨q1, q2⟩ := List.pairwise_cons.1 h2
    have hab : a = b := by
      rcases List.mem_cons.1 ((h a).1 (by simp)) with e | e
      · exact e
      · rcases List.mem_cons.1 ((h b).2 (by simp)) with e2 | e2
        · exact e2.symm
        · have := q1 a e; have := p1 b e2; omega
    subst hab
    rw [sorted_ext p2 q2 fun x => ?_]
    constructor
    · intro hx
      rcases List.mem_cons.1 ((h x).1 (by simp [hx])) with e | e
      · subst e; exact absurd (p1 x hx) (by omega)
      · exact e
    · intro hx
      rcases List.mem_cons.1 ((h x).2 (by simp [hx])) with e | e
      · subst e; exact absurd (q1 x hx) (by omega)
      · exact e
theorem bub_mem (y : Ln) : ∀ (A : List Ln) (x : Ln) (B : List Ln), y ∈ bub A x B ↔ y ∈ A ∨ y = x ∨ y ∈ B
  | [], x, B => by simp [bub]
  | z :: A, x, B => by
    rw [bub]
    split
    · rw [bub_mem y A]
      constructor
      · rintro (h | h | h)
        · exact .inl (by simp [h])
        · exact .inr (.inl h)
        · rcases List.mem_cons.1 h with rfl | h
          · exact .inl (by simp)
          · exact .inr (.inr h)
      · rintro (h | h | h)
        · rcases List.mem_cons.1 h with rfl | h
          · exact .inr (.inr (by simp))
          · exact .inl h
        · exact .inr (.inl h)
        · exact .inr (.inr (by simp [h]))
    · simp only [List.mem_append, List.mem_reverse, List.mem_cons]
theorem bub_sorted : ∀ (A : List Ln) (x : Ln) (B : List Ln), sLn (A.reverse ++ B) → (∀ y ∈ B, x.id < y.id) → (∀ y ∈ A, y.id ≠ x.id) → sLn (bub A x B)
  | [], x, B, h1, h2, h3 => by
    rw [bub]
    exact List.pairwise_cons.2 ⟨h2, by simpa [sLn] using h1⟩
  | z :: A, x, B, h1, h2, h3 => by
    rw [bub]
    have h1' : sLn (A.reverse ++ (z :: B)) := by simpa using h1
    split
    · rename_i q
      exact bub_sorted A x (z :: B) h1' (fun y hy => by
        rcases List.mem_cons.1 hy with rfl | hy
        · exact q
        · exact h2 y hy) (fun y hy => h3 y (by simp [hy]))
    · rename_i q
      have hz : z.id < x.id := by have := h3 z (by simp); omega
      have hp := List.pairwise_append.1 h1
      refine List.pairwise_append.2 ⟨hp.1, List.pairwise_cons.2 ⟨h2, hp.2.1⟩, fun a ha b hb => ?_⟩
      rcases List.mem_cons.1 hb with rfl | hb
      · rw [List.reverse_cons, List.mem_append] at ha
        rcases ha with ha | ha
        · have := (List.pairwise_append.1 h1').2.2 a ha z (by simp); omega
        · simp at ha; subst ha; exact hz
      · exact hp.2.2 a ha b hb
theorem ins_mem (y x : Ln) (o : List Ln) : y ∈ insE o x ↔ y ∈ o ∨ y = x := by unfold insE; rw [bub_mem]; simp
theorem ins_sorted {o : List Ln} {x : Ln} (h : sLn o) (hx : ∀ y ∈ o, y.id ≠ x.id) : sLn (insE o x) := bub_sorted _ _ _ (by simpa using h) (by simp) (fun y hy => hx y (by simpa using hy))
theorem ins_length (o : List Ln) (x : Ln) : (insE o x).length = o.length + 1 := by unfold insE; rw [bub_length]; simp
theorem foldIns_length (f : Gd → Ln) : ∀ (l : List Gd) (o : List Ln), (l.foldl (fun o g => insE o (f g)) o).length = o.length + l.length
  | [], o => rfl
  | g :: l, o => by rw [List.foldl_cons, foldIns_length f l, ins_length]; simp; omega
theorem foldIns {f : Gd → Ln} (hf : ∀ g, (f g).id = g.id) : ∀ (l : List Gd) (o : List Ln), sLn o → l.Pairwise (fun a b => a.id ≠ b.id) → (∀ g ∈ l, ∀ y ∈ o, y.id ≠ g.id) →
    sLn (l.foldl (fun o g => insE o (f g)) o) ∧ ∀ y, y ∈ l.foldl (fun o g => insE o (f g)) o ↔ y ∈ o ∨ ∃ g ∈ l, y = f g
  | [], o, h1, h2, h3 => ⟨h1, fun y => by simp⟩
  | g :: l, o, h1, h2, h3 => by
    obtain ⟨p1, p2⟩ := List.pairwise_cons.1 h2
    rw [List.foldl_cons]
    obtain ⟨q1, q2⟩ := foldIns hf l (insE o (f g)) (ins_sorted h1 (fun y hy => by rw [hf]; exact h3 g (by simp) y hy)) p2 (fun a ha y hy => by
      rcases (ins_mem y (f g) o).1 hy with hy | rfl
      · exact h3 a (by simp [ha]) y hy
      · rw [hf]; exact p1 a ha)
    refine ⟨q1, fun y => ?_⟩
    rw [q2, ins_mem]
    constructor
    · rintro ((h | h) | ⟨a, ha, rfl⟩)
      · exact .inl h
      · exact .inr ⟨g, by simp, h⟩
      · exact .inr ⟨a, by simp [ha], rfl⟩
    · rintro (h | ⟨a, ha, rfl⟩)
      · exact .inl (.inl h)
      · rcases List.mem_cons.1 ha with rfl | ha
        · exact .inl (.inr rfl)
        · exact .inr ⟨a, ha, rfl⟩
def sG (l : List Gd) : Prop := l.Pairwise fun a b => a.id < b.id
def keyG (p : Gd × Gd) : Int := max p.1.id p.2.id
theorem find_lt {l : List Gd} {id : Int} (h : ∀ g ∈ l, id < g.id) : findG l id = zG := by
  unfold findG
  have : l.find? (fun g => g.id == id) = none := by
    rw [List.find?_eq_none]
    intro g hg
    have := h g hg
    simp; omega
  rw [this]; rfl
theorem find_cons_self (g : Gd) (l : List Gd) : findG (g :: l) g.id = g := by simp [findG]
theorem find_cons_ne {g : Gd} {l : List Gd} {id : Int} (h : g.id ≠ id) : findG (g :: l) id = findG l id := by
  have : (g.id == id) = false := by simpa using h
  simp [findG, this]
theorem find_mem {l : List Gd} (hs : sG l) {g : Gd} (hg : g ∈ l) : findG l g.id = g := by
  induction l with
  | nil => simp at hg
  | cons a l ih =>
    obtain ⟨p1, p2⟩ := List.pairwise_cons.1 hs
    rcases List.mem_cons.1 hg with rfl | hg
    · exact find_cons_self _ _
    · rw [find_cons_ne (by have := p1 g hg; omega)]; exact ih p2 hg
theorem find_cases (l : List Gd) (id : Int) : (findG l id = zG ∧ ∀ g ∈ l, g.id ≠ id) ∨ (findG l id ∈ l ∧ (findG l id).id = id) := by
  unfold findG
  cases hf : l.find? (fun g => g.id == id) with
  | none =>
    left
    refine ⟨rfl, fun g hg => ?_⟩
    have := List.find?_eq_none.1 hf g hg
    simpa using this
  | some g =>
    right
    exact ⟨List.mem_of_find?_eq_some hf, by simpa using List.find?_some hf⟩
theorem merge_spec : ∀ (s t : List Gd), sG s → sG t → (∀ g ∈ s, 0 < g.id) → (∀ g ∈ t, 0 < g.id) →
    (∀ p ∈ mergeG s t, p = (findG s (keyG p), findG t (keyG p)) ∧ ((∃ g ∈ s, g.id = keyG p) ∨ ∃ g ∈ t, g.id = keyG p)) ∧ (mergeG s t).Pairwise (fun a b => keyG a < keyG b) ∧
    (∀ g ∈ s, (findG s g.id, findG t g.id) ∈ mergeG s t) ∧ (∀ g ∈ t, (findG s g.id, findG t g.id) ∈ mergeG s t) := by
  intro s t
  fun_induction mergeG s t with
  | case1 => intro _ _ _ _; simp
  | case2 a s ih =>
    intro h1 h2 h3 h4
    obtain ⟨p1, p2⟩ := List.pairwise_cons.1 h1
    obtain ⟨i1, i2, i3, i4⟩ := ih p2 h2 (fun g hg => h3 g (by simp [hg])) h4
    have ha := h3 a (by simp)
    have k0 : keyG (a, zG) = a.id := by simp [keyG, zG]; omega
    have gt : ∀ p ∈ mergeG s [], a.id < keyG p := fun p hp => by
      rcases (i1 p hp).2 with ⟨g, hg, e⟩ | ⟨g, hg, e⟩
      · rw [← e]; exact p1 g hg
      · simp at hg
    refine ⟨fun p hp => ?_, List.pairwise_cons.2 ⟨fun p hp => by rw [k0]; exact gt p hp, i2⟩, fun g hg => ?_, fun g hg => by simp at hg⟩
    · rcases List.mem_cons.1 hp with rfl | hp
      · rw [k0]; exact ⟨by rw [find_cons_self]; rfl, .inl ⟨a, by simp, rfl⟩⟩
      · have := gt p hp
        obtain ⟨q1, q2⟩ := i1 p hp
        refine ⟨by rw [find_cons_ne (by omega)]; exact q1, ?_⟩
        rcases q2 with ⟨g, hg, e⟩ | ⟨g, hg, e⟩
        · exact .inl ⟨g, by simp [hg], e⟩
        · exact .inr ⟨g, hg, e⟩
    · rcases List.mem_cons.1 hg with rfl | hg
      · rw [find_cons_self]; exact List.mem_cons.2 (.inl rfl)
      · rw [find_cons_ne (by have := p1 g hg; omega)]
        exact List.mem_cons.2 (.inr (i3 g hg))
  | case3 b t ih =>
    intro h1 h2 h3 h4
    obtain ⟨p1, p2⟩ := List.pairwise_cons.1 h2
    obtain ⟨i1, i2, i3, i4⟩ := ih h1 p2 h3 (fun g hg => h4 g (by simp [hg]))
    have hb := h4 b (by simp)
    have k0 : keyG (zG, b) = b.id := by simp [keyG, zG]; omega
    have gt : ∀ p ∈ mergeG [] t, b.id < keyG p := fun p hp => by
      rcases (i1 p hp).2 with ⟨g, hg, e⟩ | ⟨g, hg, e⟩
      · simp at hg
      · rw [← e]; exact p1 g hg
    refine ⟨fun p hp => ?_, List.pairwise_cons.2 ⟨fun p hp => by rw [k0]; exact gt p hp, i2⟩, fun g hg => by simp at hg, fun g hg => ?_⟩
    · rcases List.mem_cons.1 hp with rfl | hp
      · rw [k0]; exact ⟨by rw [find_cons_self]; rfl, .inr ⟨b, by simp, rfl⟩⟩
      · have := gt p hp
        obtain ⟨q1, q2⟩ := i1 p hp
        refine ⟨by rw [find_cons_ne (by omega)]; exact q1, ?_⟩
        rcases q2 with ⟨g, hg, e⟩ | ⟨g, hg, e⟩
        · exact .inl ⟨g, hg, e⟩
        · exact .inr ⟨g, by simp [hg], e⟩
    · rcases List.mem_cons.1 hg with rfl | hg
      · rw [find_cons_self]; exact List.mem_cons.2 (.inl rfl)
      · rw [find_cons_ne (by have := p1 g hg; omega)]
        exact List.mem_cons.2 (.inr (i4 g hg))
  | case4 a s b t he ih =>
    intro h1 h2 h3 h4
    obtain ⟨p1, p2⟩ := List.pairwise_cons.1 h1
    obtain ⟨r1, r2⟩ := List.pairwise_cons.1 h2
    obtain ⟨i1, i2, i3, i4⟩ := ih p2 r2 (fun g hg => h3 g (by simp [hg])) (fun g hg => h4 g (by simp [hg]))
    have k0 : keyG (a, b) = a.id := by simp [keyG]; omega
    have gt : ∀ p ∈ mergeG s t, a.id < keyG p := fun p hp => by
      rcases (i1 p hp).2 with ⟨g, hg, e⟩ | ⟨g, hg, e⟩
      · rw [← e]; exact p1 g hg
      · rw [← e, he]; exact r1 g hg
    refine ⟨fun p hp => ?_, List.pairwise_cons.2 ⟨fun p hp => by rw [k0]; exact gt p hp, i2⟩, fun g hg => ?_, fun g hg => ?_⟩
    · rcases List.mem_cons.1 hp with rfl | hp
      · rw [k0]; exact ⟨by rw [find_cons_self]; conv => rhs; rw [he, find_cons_self], .inl ⟨a, by simp, rfl⟩⟩
      · have := gt p hp
        obtain ⟨q1, q2⟩ := i1 p hp
        refine ⟨by rw [find_cons_ne (by omega), find_cons_ne (by omega)]; exact q1, ?_⟩
        rcases q2 with ⟨g, hg, e⟩ | ⟨g, hg, e⟩
        · exact .inl ⟨g, by simp [hg], e⟩
        · exact .inr ⟨g, by simp [hg], e⟩
    · rcases List.mem_cons.1 hg with rfl | hg
      · rw [find_cons_self, he, find_cons_self]; exact List.mem_cons.2 (.inl rfl)
      · have := p1 g hg
        rw [find_cons_ne (by omega), find_cons_ne (by omega)]
        exact List.mem_cons.2 (.inr (i3 g hg))
    · rcases List.mem_cons.1 hg with rfl | hg
      · rw [find_cons_self, ← he, find_cons_self]; exact List.mem_cons.2 (.inl rfl)
      · have := r1 g hg
        rw [find_cons_ne (by omega), find_cons_ne (by omega)]
        exact List.mem_cons.2 (.inr (i4 g hg))
  | case5 a s b t he hlt ih =>
    intro h1 h2 h3 h4
    obtain ⟨p1, p2⟩ := List.pairwise_cons.1 h1
    obtain ⟨r1, r2⟩ := List.pairwise_cons.1 h2
    obtain ⟨i1, i2, i3, i4⟩ := ih p2 h2 (fun g hg => h3 g (by simp [hg])) h4
    have ha := h3 a (by simp)
    have k0 : keyG (a, zG) = a.id := by simp [keyG, zG]; omega
    have gt : ∀ p ∈ mergeG s (b :: t), a.id < keyG p := fun p hp => by
      rcases (i1 p hp).2 with ⟨g, hg, e⟩ | ⟨g, hg, e⟩
      · rw [← e]; exact p1 g hg
      · rcases List.mem_cons.1 hg with rfl | hg
        · omega
        · have := r1 g hg; omega
    have fz : findG (b :: t) a.id = zG := find_lt (fun g hg => by
      rcases List.mem_cons.1 hg with rfl | hg
      · exact hlt
      · have := r1 g hg; omega)
    refine ⟨fun p hp => ?_, List.pairwise_cons.2 ⟨fun p hp => by rw [k0]; exact gt p hp, i2⟩, fun g hg => ?_, fun g hg => ?_⟩
    · rcases List.mem_cons.1 hp with rfl | hp
      · rw [k0]; exact ⟨by rw [find_cons_self, fz], .inl ⟨a, by simp, rfl⟩⟩
      · have := gt p hp
        obtain ⟨q1, q2⟩ := i1 p hp
        refine ⟨by rw [find_cons_ne (g := a) (by omega)]; exact q1, ?_⟩
        rcases q2 with ⟨g, hg, e⟩ | ⟨g, hg, e⟩
        · exact .inl ⟨g, by simp [hg], e⟩
        · exact .inr ⟨g, hg, e⟩
    · rcases List.mem_cons.1 hg with rfl | hg
      · rw [find_cons_self, fz]; exact List.mem_cons.2 (.inl rfl)
      · have := p1 g hg
        rw [find_cons_ne (g := a) (by omega)]
        exact List.mem_cons.2 (.inr (i3 g hg))
    · have : a.id < g.id := by
        rcases List.mem_cons.1 hg with rfl | hg
        · exact hlt
        · have := r1 g hg; omega
      rw [find_cons_ne (g := a) (by omega)]
      exact List.mem_cons.2 (.inr (i4 g hg))
  | case6 a s b t he hlt ih =>
    intro h1 h2 h3 h4
    obtain ⟨p1, p2⟩ := List.pairwise_cons.1 h1
    obtain ⟨r1, r2⟩ := List.pairwise_cons.1 h2
    obtain ⟨i1, i2, i3, i4⟩ := ih h1 r2 h3 (fun g hg => h4 g (by simp [hg]))
    have hb := h4 b (by simp)
    have hba : b.id < a.id := by omega
    have k0 : keyG (zG, b) = b.id := by simp [keyG, zG]; omega
    have gt : ∀ p ∈ mergeG (a :: s) t, b.id < keyG p := fun p hp => by
      rcases (i1 p hp).2 with ⟨g, hg, e⟩ | ⟨g, hg, e⟩
      · rcases List.mem_cons.1 hg with rfl | hg
        · omega
        · have := p1 g hg; omega
      · rw [← e]; exact r1 g hg
    have fz : findG (a :: s) b.id = zG := find_lt (fun g hg => by
      rcases List.mem_cons.1 hg with rfl | hg
      · exact hba
      · have := p1 g hg; omega)
    refine ⟨fun p hp => ?_, List.pairwise_cons.2 ⟨fun p hp => by rw [k0]; exact gt p hp, i2⟩, fun g hg => ?_, fun g hg => ?_⟩
    · rcases List.mem_cons.1 hp with rfl | hp
      · rw [k0]; exact ⟨by rw [find_cons_self, fz], .inr ⟨b, by simp, rfl⟩⟩
      · have := gt p hp
        obtain ⟨q1, q2⟩ := i1 p hp
        refine ⟨by rw [find_cons_ne (g := b) (by omega)]; exact q1, ?_⟩
        rcases q2 with ⟨g, hg, e⟩ | ⟨g, hg, e⟩
        · exact .inl ⟨g, hg, e⟩
        · exact .inr ⟨g, by simp [hg], e⟩
    · have : b.id < g.id := by
        rcases List.mem_cons.1 hg with rfl | hg
        · exact hba
        · have := p1 g hg; omega
      rw [find_cons_ne (g := b) (by omega)]
      exact List.mem_cons.2 (.inr (i3 g hg))
    · rcases List.mem_cons.1 hg with rfl | hg
      · rw [find_cons_self, fz]; exact List.mem_cons.2 (.inl rfl)
      · have := r1 g hg
        rw [find_cons_ne (g := b) (by omega)]
        exact List.mem_cons.2 (.inr (i4 g hg))
theorem right_all {l : List Gd} (h : rightG l = true) : l.length ≤ 64 ∧ sG l ∧ (∀ g ∈ l, 0 < g.id ∧ 1 ≤ g.cls ∧ 1 ≤ g.alc) := by
  obtain ⟨h1, h2, h3⟩ := rightG_spec h
  refine ⟨h1, h3.imp fun h => by simpa [ltG] using h, fun g hg => ?_⟩
  have := h2 g hg
  simp [badG, win] at this
  omega
theorem clash_eq {s t : List Gd} (hs : rightG s = true) (ht : rightG t = true) : clashR s t = (mergeG s t).any clashG := by
  obtain ⟨-, s1, s2⟩ := right_all hs
  obtain ⟨-, t1, t2⟩ := right_all ht
  obtain ⟨m1, m2, m3, m4⟩ := merge_spec s t s1 t1 (fun g hg => (s2 g hg).1) (fun g hg => (t2 g hg).1)
  rw [Bool.eq_iff_iff]
  unfold clashR
  simp only [List.any_eq_true, clashG, Bool.and_eq_true, decide_eq_true_eq, bne_iff_ne, ne_eq]
  constructor
  · rintro ⟨g, hg, c1, c2⟩
    refine ⟨_, m3 g hg, ?_⟩
    rw [find_mem s1 hg]
    have := (s2 g hg).1
    rcases find_cases t g.id with ⟨e, -⟩ | ⟨e1, e2⟩
    · rw [e] at c1; exact absurd rfl c1
    · exact ⟨this, by rw [e2]; exact this, fun e => c2 e.symm⟩
  · rintro ⟨p, hp, c1, c2, c3⟩
    obtain ⟨e, -⟩ := m1 p hp
    have e1 : p.1 = findG s (keyG p) := congrArg Prod.fst e
    have e2 : p.2 = findG t (keyG p) := congrArg Prod.snd e
    rcases find_cases s (keyG p) with ⟨f, -⟩ | ⟨f1, f2⟩
    · rw [e1, f] at c1; simp [zG] at c1
    · refine ⟨findG s (keyG p), f1, ?_, ?_⟩
      · rw [f2, ← e2]; omega
      · rw [f2, ← e2, ← e1]; exact fun h => c3 h.symm
theorem all_distinct {s t : List Gd} (hs : rightG s = true) (ht : rightG t = true) : (allG s t).Pairwise (fun a b => a.id ≠ b.id) := by
  obtain ⟨-, s1, s2⟩ := right_all hs
  obtain ⟨-, t1, t2⟩ := right_all ht
  unfold allG
  refine List.pairwise_append.2 ⟨s1.imp fun h => by omega, (t1.filter _).imp fun h => by omega, fun a ha b hb => ?_⟩
  rw [List.mem_filter] at hb
  intro e
  have := find_mem s1 ha
  rw [e] at this
  rw [this] at hb
  have := (s2 a ha).1
  simp at hb; omega
theorem ref_lines {s t : List Gd} {tol : List Int} (hs : rightG s = true) (ht : rightG t = true) (hc : (mergeG s t).any clashG = false) : (allG s t).foldl (fun o g => insE o (lineR s t tol g)) [] = (mergeG s t).map (lineG tol) := by
  obtain ⟨-, s1, s2⟩ := right_all hs
  obtain ⟨-, t1, t2⟩ := right_all ht
  obtain ⟨m1, m2, m3, m4⟩ := merge_spec s t s1 t1 (fun g hg => (s2 g hg).1) (fun g hg => (t2 g hg).1)
  obtain ⟨q1, q2⟩ := foldIns (f := lineR s t tol) (fun _ => rfl) (allG s t) [] List.Pairwise.nil (all_distinct hs ht) (by simp)
  have line : ∀ g ∈ allG s t, lineR s t tol g = lineG tol (findG s g.id, findG t g.id) ∧ (findG s g.id, findG t g.id) ∈ mergeG s t := by
    intro g hg
    unfold allG at hg
    rw [List.mem_append, List.mem_filter] at hg
    have one : ∀ l : List Gd, rightG l = true → ∀ id, findG l id = zG ∨ ((findG l id).id = id ∧ findG l id ∈ l ∧ 0 < id ∧ 1 ≤ (findG l id).cls) := fun l hl id => by
      rcases find_cases l id with ⟨e, -⟩ | ⟨e1, e2⟩
      · exact .inl e
      · have := (right_all hl).2.2 _ e1
        exact .inr ⟨e2, e1, by omega, this.2.1⟩
    rcases hg with hg | ⟨hg, hz⟩
    · have hm := m3 g hg
      refine ⟨?_, hm⟩
      have fs := find_mem s1 hg
      have hgp := s2 g hg
      have hcl : clashG (findG s g.id, findG t g.id) = false := by simpa using List.any_eq_false.1 hc _ hm
      rw [fs] at hcl
      unfold lineR lineG
      simp only [fs]
      rcases one t ht g.id with e | ⟨e1, e2, e3, e4⟩
      · rw [e]
        have a1 : max g.id zG.id = g.id := by simp [zG]; omega
        have a2 : max g.cls zG.cls = g.cls := by simp [zG]; omega
        rw [a1, a2]
      · have hcc : g.cls = (findG t g.id).cls := by
          simp only [clashG, Bool.and_eq_false_iff, decide_eq_false_iff_not, bne_eq_false_iff_eq] at hcl
          rcases hcl with q | q | q
          · omega
          · omega
          · exact q
        rw [e1, ← hcc]
        have a1 : max g.id g.id = g.id := by omega
        have a2 : max g.cls g.cls = g.cls := by omega
        rw [a1, a2]
    · have hm := m4 g hg
      refine ⟨?_, hm⟩
      have ft := find_mem t1 hg
      have hgp := t2 g hg
      have fs : findG s g.id = zG := by
        rcases one s hs g.id with e | ⟨e1, e2, e3, e4⟩
        · exact e
        · simp at hz; omega
      unfold lineR lineG
      simp only [ft, fs]
      have a1 : max zG.id g.id = g.id := by simp [zG]; omega
      have a2 : max zG.cls g.cls = g.cls := by simp [zG]; omega
      rw [a1, a2]
  refine sorted_ext q1 ?_ fun y => ?_
  · show List.Pairwise _ _
    rw [List.pairwise_map]
    exact m2.imp fun h => h
  · rw [q2, List.mem_map]
    constructor
    · rintro (h | ⟨g, hg, rfl⟩)
      · simp at h
      · obtain ⟨e1, e2⟩ := line g hg
        exact ⟨_, e2, e1.symm⟩
    · rintro ⟨p, hp, rfl⟩
      right
      obtain ⟨e, hor⟩ := m1 p hp
      have main : ∀ g, g ∈ allG s t → g.id = keyG p → ∃ g ∈ allG s t, lineG tol p = lineR s t tol g := fun g hg he => ⟨g, hg, by
        rw [(line g hg).1, he, ← e]⟩
      rcases hor with ⟨g, hg, he⟩ | ⟨g, hg, he⟩
      · exact main g (by unfold allG; simp [hg]) he
      · rcases find_cases s g.id with ⟨f, -⟩ | ⟨f1, f2⟩
        · exact main g (by unfold allG; rw [List.mem_append, List.mem_filter]; exact .inr ⟨hg, by rw [f]; rfl⟩) he
        · exact main (findG s g.id) (by unfold allG; simp [f1]) (by rw [f2]; exact he)
theorem ref_len {s t : List Gd} (hs : rightG s = true) (ht : rightG t = true) (hc : (mergeG s t).any clashG = false) : (allG s t).length = (mergeG s t).length := by
  have := congrArg List.length (ref_lines (tol := []) hs ht hc)
  rw [foldIns_length] at this
  simpa using this
end Go.AM


namespace Go.AM
open Go.RowKit
set_option linter.unusedVariables false
def mu0 (w : World) : Mu := ⟨fun _ => .virt none, w, fun k => k < w.heap.size⟩
theorem rel0 (w : World) : Rel (mu0 w) [] w where
  obj := fun id o h => by simp at h
  sep := fun i j o p b x c y d h => by simp at h
  apart := fun i sz es nil b x c h => by simp at h
  imm := fun k hk => ⟨hk, rfl, fun ⟨id, o, off, c, h, _⟩ => by simp at h⟩
theorem own0 (w : World) (b : Nat) : ¬ Own (mu0 w) [] b := fun ⟨id, o, off, c, h, _⟩ => by simp at h
theorem below0 {w w' : World} {μ' : Mu} {h' : Hp} (s : Step (mu0 w) [] w μ' h' w') : Below w.heap.size w w' :=
  ⟨s.frame.os, s.frame.tape, s.frame.output, s.frame.size, fun k hk => s.frame.block k hk (own0 w k)⟩
theorem row_calls {P : Program} {f : FuncId} {F : Fun} {args : List AV} {h' : Hp} {b : Bool} {W : World} {cargs : Array Value} (hc : CSound P f F) (hF : F args [] = some (.s (.bool b), h')) (hv : VRs (mu0 W) [] args cargs.toList) :
    Calls P f cargs W fun e W' => e = .returned (.bool b) ∧ Below W.heap.size W W' := by
  refine (hc args [] _ h' hF (mu0 W) W cargs (rel0 W) hv).2.mono fun e W' => ?_
  rintro ⟨cv, μ', rfl, s, hr⟩
  simp only [VR] at hr
  exact ⟨by rw [hr.2], below0 s⟩

inductive Ty where
  | int (k : IntKind)
  | bool
  | str
  | sl (e : List Ty)
def tyFs (f : TypeId → Option (List Ty)) (size : TypeId → Nat) : List Field → Nat → Option (List Ty)
  | [], _ => some []
  | x :: l, pos => match f x.type, tyFs f size l (pos + size x.type) with
    | some a, some b => if x.offset = pos ∧ a.length = size x.type then some (a ++ b) else none
    | _, _ => none
def tyOf (P : Program) : Nat → TypeId → Option (List Ty)
  | 0, _ => none
  | n + 1, t => match P.underlying t with
    | some .bool => some [.bool]
    | some (.int k) => some [.int k]
    | some .string => some [.str]
    | some (.slice e) => match tyOf P n e with
      | some l => if l.length = P.cellsOf e ∧ 0 < l.length then some [.sl l] else none
      | none => none
    | some (.struct fs) => match tyFs (tyOf P n) P.cellsOf fs.toList 0 with
      | some l => if l.length = P.cellsOf t then some l else none
      | none => none
    | some (.array m e) => match tyOf P n e with
      | some l => if l.length = P.cellsOf e ∧ m * P.cellsOf e = P.cellsOf t then some (List.replicate m l).flatten else none
      | none => none
    | _ => none
mutual
def HasT : Ty → AV → Prop
  | .int k, a => ∃ n, a = .s (.int k n) ∧ (Lit.int k n).wf = true
  | .bool, a => ∃ b, a = .s (.bool b)
  | .str, a => ∃ s : ByteArray, a = .s (.string s) ∧ s.size ≤ maxLen
  | .sl ts, a => ∃ nil es, a = .lst ts.length nil es ∧ (nil = true → es = []) ∧ es.length ≤ maxLen ∧ ∀ e ∈ es, HasTs ts e
def HasTs : List Ty → List AV → Prop
  | [], asl => asl = []
  | t :: ts, asl => ∃ a as', asl = a :: as' ∧ HasT t a ∧ HasTs ts as'
end
theorem HasTs.app : ∀ {ts us : List Ty} {asl bs : List AV}, HasTs ts asl → HasTs us bs → HasTs (ts ++ us) (asl ++ bs)
  | [], us, asl, bs, h, k => by simp only [HasTs] at h; subst h; exact k
  | t :: ts, us, asl, bs, h, k => by
    simp only [HasTs] at h
    obtain ⟨a, as', rfl, h1, h2⟩ := h
    simp only [List.cons_append, HasTs]
    exact ⟨a, _, rfl, h1, HasTs.app h2 k⟩
theorem HasTs.len : ∀ {ts : List Ty} {asl : List AV}, HasTs ts asl → asl.length = ts.length
  | [], asl, h => by simp only [HasTs] at h; subst h; rfl
  | t :: ts, asl, h => by
    simp only [HasTs] at h
    obtain ⟨a, as', rfl, h1, h2⟩ := h
    simp [HasTs.len h2]
theorem HasT.ok : ∀ {t : Ty} {a : AV}, HasT t a → okC a = true
  | .int k, a, h => by simp only [HasT] at h; obtain ⟨n, rfl, _⟩ := h; rfl
  | .bool, a, h => by simp only [HasT] at h; obtain ⟨n, rfl⟩ := h; rfl
  | .str, a, h => by simp only [HasT] at h; obtain ⟨n, rfl, _⟩ := h; rfl
  | .sl ts, a, h => by simp only [HasT] at h; obtain ⟨n, es, rfl, _⟩ := h; rfl
theorem HasTs.ok : ∀ {ts : List Ty} {asl : List AV}, HasTs ts asl → ∀ x ∈ asl, okC x = true
  | [], asl, h, x, hx => by simp only [HasTs] at h; subst h; simp at hx
  | t :: ts, asl, h, x, hx => by
    simp only [HasTs] at h
    obtain ⟨a, as', rfl, h1, h2⟩ := h
    rcases List.mem_cons.1 hx with rfl | hx
    · exact h1.ok
    · exact h2.ok x hx
theorem VRs_app' {μ : Mu} {h : Hp} : ∀ {asl bs : List AV} {cs ds : List Value}, VRs μ h asl cs → VRs μ h bs ds → VRs μ h (asl ++ bs) (cs ++ ds)
  | [], bs, cs, ds, h1, h2 => by simp only [VRs] at h1; subst h1; exact h2
  | a :: asl, bs, cs, ds, h1, h2 => by
    simp only [VRs] at h1
    obtain ⟨v, vs, rfl, h3, h4⟩ := h1
    simp only [List.cons_append, VRs]
    exact ⟨v, _, rfl, h3, VRs_app' h4 h2⟩
section
variable {H : Type} {enc : TypeId × Value → H} {P : Program} {w : World} {base : Nat} {spare : Nat → Bool} {held : Bool}
def Opened (w : World) (ts : List Ty) (cs : List Value) : Prop := ∃ asl, HasTs ts asl ∧ VRs (mu0 w) [] asl cs ∧ ∀ u ∈ cs, u.oneCell' = true
theorem open_one {t : Ty} {u : Value} {a : AV} (h1 : HasT t a) (h2 : VR (mu0 w) [] a u) (h3 : u.oneCell' = true) : Opened w [t] [u] :=
  ⟨[a], by simp only [HasTs]; exact ⟨a, [], rfl, h1, rfl⟩, by simp only [VRs]; exact ⟨u, [], rfl, h2, rfl⟩, by simpa using h3⟩
theorem open_fs {f : TypeId → Option (List Ty)} {g : TypeId → List Value → Prop} {cs : List Value} (hg : ∀ t ts cs', f t = some ts → g t cs' → Opened w ts cs') : ∀ (l : List Field) (pos : Nat) (ts : List Ty), tyFs f P.cellsOf l pos = some ts →
    (∀ x ∈ l, g x.type ((cs.drop x.offset).take (P.cellsOf x.type))) → Opened w ts ((cs.drop pos).take ts.length)
  | [], pos, ts, h, _ => by
    simp only [tyFs, Option.some.injEq] at h
    subst h
    exact ⟨[], rfl, rfl, by simp⟩
  | x :: l, pos, ts, h, hx => by
    simp only [tyFs] at h
    split at h
    · rename_i a b h1 h2
      split at h
      · rename_i hc
        simp only [Option.some.injEq] at h
        subst h
        obtain ⟨h3, h4⟩ := hc
        obtain ⟨asl, p1, p2, p3⟩ := hg _ _ _ h1 (hx x (by simp))
        obtain ⟨bs, q1, q2, q3⟩ := open_fs hg l _ b h2 (fun y hy => hx y (by simp [hy]))
        have e : (cs.drop pos).take (a ++ b).length = (cs.drop x.offset).take (P.cellsOf x.type) ++ (cs.drop (pos + P.cellsOf x.type)).take b.length := by
          rw [List.length_append, h4, h3, ← List.drop_drop, List.take_add]
        rw [e]
        refine ⟨asl ++ bs, p1.app q1, VRs_app' p2 q2, ?_⟩
        intro u hu
        rcases List.mem_append.1 hu with hu | hu
        · exact p3 u hu
        · exact q3 u hu
      · simp at h
    · simp at h
theorem open_arr {ts : List Ty} {sz : Nat} {cs : List Value} : ∀ (n i0 : Nat), (∀ i, i < n → Opened w ts ((cs.drop ((i0 + i) * sz)).take sz)) → Opened w (List.replicate n ts).flatten ((cs.drop (i0 * sz)).take (n * sz))
  | 0, i0, _ => ⟨[], rfl, by simp [VRs], by simp⟩
  | n + 1, i0, h => by
    obtain ⟨asl, p1, p2, p3⟩ := h 0 (by omega)
    obtain ⟨bs, q1, q2, q3⟩ := open_arr n (i0 + 1) (fun i hi => by have := h (i + 1) (by omega); rwa [show i0 + (i + 1) = i0 + 1 + i by omega] at this)
    have e : (cs.drop (i0 * sz)).take ((n + 1) * sz) = (cs.drop (i0 * sz)).take sz ++ (cs.drop ((i0 + 1) * sz)).take (n * sz) := by
      rw [show (n + 1) * sz = sz + n * sz by rw [Nat.add_mul]; omega, show (i0 + 1) * sz = i0 * sz + sz by rw [Nat.add_mul]; omega, ← List.drop_drop, List.take_add]
    rw [e, List.replicate_succ, List.flatten_cons]
    refine ⟨asl ++ bs, p1.app q1, VRs_app' p2 q2, ?_⟩
    intro u hu
    rcases List.mem_append.1 hu with hu | hu
    · exact p3 u hu
    · exact q3 u hu
theorem open_es {ts : List Ty} {sz b : Nat} (hts : ts.length = sz) : ∀ (n o : Nat), (∀ i, i < n → ∃ cs, Opened w ts cs ∧ cs.length = sz ∧ ∀ j u, cs[j]? = some u → w.cell? ⟨b, o + i * sz + j, none⟩ = some u) →
    ∃ es vs, es.length = n ∧ (∀ e ∈ es, HasTs ts e) ∧ VRf (mu0 w) [] es vs ∧ ∀ j u, vs[j]? = some u → w.cell? ⟨b, o + j, none⟩ = some u ∧ u.oneCell' = true
  | 0, o, h => ⟨[], [], rfl, by simp, rfl, by simp⟩
  | n + 1, o, h => by
    obtain ⟨cs, ⟨asl, h1, h2, h3⟩, h4, h5⟩ := h 0 (by omega)
    obtain ⟨es, vs, k1, k2, k3, k4⟩ := open_es hts n (o + sz) (fun i hi => by
      obtain ⟨cs', q1, q2, q3⟩ := h (i + 1) (by omega)
      refine ⟨cs', q1, q2, fun j u hu => ?_⟩
      rw [← q3 j u hu]
      congr 2
      rw [Nat.add_mul]; omega)
    refine ⟨asl :: es, cs ++ vs, by simp [k1], ?_, ?_, ?_⟩
    · intro e he
      rcases List.mem_cons.1 he with rfl | he
      · exact h1
      · exact k2 e he
    · simp only [VRf]; exact ⟨cs, vs, rfl, h2, k3⟩
    · intro j u hj
      by_cases hlt : j < cs.length
      · rw [List.getElem?_append_left hlt] at hj
        have := h5 j u hj
        exact ⟨by simpa using this, h3 u (List.mem_of_getElem? hj)⟩
      · rw [List.getElem?_append_right (by omega)] at hj
        have := k4 _ _ hj
        rw [show o + sz + (j - cs.length) = o + j by omega] at this
        exact this
theorem cell_lt {a : Addr} {v : Value} (h : w.cell? a = some v) : a.block < w.heap.size := by
  rcases Nat.lt_or_ge a.block w.heap.size with h1 | h1
  · exact h1
  · have : w.heap[a.block]? = none := by simpa using h1
    simp [World.cell?, this] at h
theorem open_cells : ∀ (fuel n : Nat) (t : TypeId) (ts : List Ty) (cs : List Value) (x : DataW H × List MemPlace), tyOf P n t = some ts → DataW.trod enc P w base spare held fuel t cs = some x → Opened w ts cs
  | 0, n, t, ts, cs, x, _, h => by simp [DataW.trod] at h
  | fuel + 1, 0, t, ts, cs, x, h0, _ => by simp [tyOf] at h0
  | fuel + 1, n + 1, t, ts, cs, x, h0, h => by
    unfold tyOf at h0
    cases hu : P.underlying t with
    | none => rw [hu] at h0; simp at h0
    | some T =>
      rw [hu] at h0
      cases T with
      | bool =>
        simp only [Option.some.injEq] at h0
        subst h0
        obtain ⟨b, rfl, _⟩ := DataW.trod_bool hu h
        exact open_one (a := .s (.bool b)) (by simp [HasT]) (by simp [VR, gv]) rfl
      | int k =>
        simp only [Option.some.injEq] at h0
        subst h0
        obtain ⟨m, rfl, _, hw⟩ := DataW.trod_int hu h
        exact open_one (a := .s (.int k m)) (by simp [HasT, hw]) (by simp [VR, gv]) rfl
      | string =>
        simp only [Option.some.injEq] at h0
        subst h0
        obtain ⟨s, rfl, _, hs⟩ := DataW.trod_string hu h
        exact open_one (a := .s (.string s)) (by simp [HasT, hs]) (by simp [VR, gv]) rfl
      | slice e =>
        simp only at h0
        cases he : tyOf P n e with
        | none => rw [he] at h0; simp at h0
        | some l =>
          rw [he] at h0
          simp only at h0
          split at h0
          · rename_i hl
            simp only [Option.some.injEq] at h0
            subst h0
            rcases DataW.trod_slice hu h with ⟨rfl, _⟩ | ⟨a, len, cap, elems, rest, m, hm, rfl, _, hb, h1, h2, h3, h4, _, _⟩
            · refine open_one (a := .lst l.length true []) ?_ ?_ rfl
              · simp only [HasT]; exact ⟨true, [], rfl, fun _ => rfl, by simp, by simp⟩
              · simp only [VR]
                exact ⟨none, 0, rfl, by simp, by simp, rfl, fun _ => rfl, by simp, by simp⟩
            · have hm' : m = fuel := by omega
              subst hm'
              have cell : ∀ i, i < len → ∃ cs, Opened w l cs ∧ cs.length = P.cellsOf e ∧ ∀ j, j < P.cellsOf e → w.cell? ((a.add (i * P.cellsOf e)).add j) = cs[j]? := by
                intro i hi
                have hi' := h4 i hi
                rw [List.getElem?_eq_getElem (by omega), Option.bind_eq_some_iff] at hi'
                obtain ⟨cs, q1, q2⟩ := hi'
                have q3 := World.cells?_some q1
                exact ⟨cs, open_cells m n e l cs _ he q2, q3.2.1, q3.2.2⟩
              obtain ⟨b, off, spot⟩ := a
              have hsp : len ≠ 0 → spot = none := fun hn => by
                obtain ⟨cs, _, q2, q3⟩ := cell 0 (by omega)
                have q4 := q3 0 (by omega)
                rw [List.getElem?_eq_getElem (by omega)] at q4
                simpa [Addr.add] using World.cell?_spot q4
              by_cases hn : len = 0
              · subst hn
                refine open_one (a := .lst l.length false []) ?_ ?_ rfl
                · simp only [HasT]; exact ⟨false, [], rfl, fun _ => rfl, by simp, by simp⟩
                · simp only [VR]
                  exact ⟨_, cap, rfl, by simp, h2, rfl, by simp, by simp, by simp⟩
              · have hs := hsp hn
                subst hs
                obtain ⟨es, vs, k1, k2, k3, k4⟩ := open_es (w := w) (ts := l) (sz := P.cellsOf e) (b := b) hl.1 len off (fun i hi => by
                  obtain ⟨cs, q1, q2, q3⟩ := cell i hi
                  refine ⟨cs, q1, q2, fun j u hj => ?_⟩
                  have hjl := (List.getElem?_eq_some_iff.1 hj).1
                  have := q3 j (by omega)
                  rw [hj] at this
                  rw [← this, Go.WideShapes.add_plain, Go.WideShapes.add_plain])
                refine open_one (a := .lst l.length false es) ?_ ?_ rfl
                · simp only [HasT]; exact ⟨false, es, rfl, by simp, by omega, k2⟩
                · simp only [VR]
                  refine ⟨_, cap, by rw [k1], by omega, h2, rfl, by simp, fun e' he' => ⟨(k2 e' he').len, (k2 e' he').ok⟩, fun _ => ⟨b, off, vs, rfl, ?_, k3, k4⟩⟩
                  obtain ⟨cs, q1, q2, q3⟩ := cell 0 (by omega)
                  have q4 := q3 0 (by omega)
                  rw [List.getElem?_eq_getElem (by omega)] at q4
                  show b < w.heap.size
                  rw [Go.WideShapes.add_plain, Go.WideShapes.add_plain] at q4
                  exact cell_lt q4
          · simp at h0
      | struct fs =>
        simp only at h0
        cases he : tyFs (tyOf P n) P.cellsOf fs.toList 0 with
        | none => rw [he] at h0; simp at h0
        | some l =>
          rw [he] at h0
          simp only at h0
          split at h0
          · rename_i hl
            simp only [Option.some.injEq] at h0
            subst h0
            obtain ⟨xs, m, hm, _, h2, h3, h4⟩ := DataW.trod_struct hu h
            have hm' : m = fuel := by omega
            subst hm'
            have := open_fs (w := w) (P := P) (f := tyOf P n) (g := fun t cs' => ∃ y, DataW.trod enc P w base spare held m t cs' = some y) (cs := cs) (fun t ts cs' q1 ⟨y, q2⟩ => open_cells m n t ts cs' y q1 q2) fs.toList 0 l he (fun y hy => by
              obtain ⟨i, hi⟩ := List.getElem?_of_mem hy
              have hi2 : fs[i]? = some y := by simpa using hi
              have := h4 i y hi2
              have hlt : i < xs.length := by rw [h3]; exact (Array.getElem?_eq_some_iff.1 hi2).1
              rw [List.getElem?_eq_getElem hlt] at this
              exact ⟨_, this⟩)
            rw [List.drop_zero, hl, ← h2, List.take_length] at this
            exact this
          · simp at h0
      | array k e =>
        simp only at h0
        cases he : tyOf P n e with
        | none => rw [he] at h0; simp at h0
        | some l =>
          rw [he] at h0
          simp only at h0
          split at h0
          · rename_i hl
            simp only [Option.some.injEq] at h0
            subst h0
            obtain ⟨xs, m, hm, _, h2, h3, h4⟩ := DataW.trod_array hu h
            have hm' : m = fuel := by omega
            subst hm'
            have := open_arr (w := w) (ts := l) (sz := P.cellsOf e) (cs := cs) k 0 (fun i hi => by
              have h5 := h4 i hi
              rw [List.getElem?_eq_getElem (by omega)] at h5
              have h6 := open_cells m n e l _ _ he h5
              rwa [Nat.zero_add])
            rw [Nat.zero_mul, List.drop_zero, hl.2, ← h2, List.take_length] at this
            exact this
          · simp at h0
      | _ => simp at h0
theorem open_agg {t : TypeId} {fs : Array Field} {r : Reach} {b : Nat} {v : Value} {d : DataW H} {ps : List MemPlace} {n : Nat} {ts : List Ty} (hu : P.underlying t = some (.struct fs)) (ht : tyOf P n t = some ts) (hval : Value.okWide P w r b t v)
    (hd : DataW.Trod enc P w base spare held t v d ps) : ∃ asl, HasTs ts asl ∧ VR (mu0 w) [] (.agg asl) v := by
  obtain ⟨cs, rfl, _⟩ := WideShapes.okWide_struct hu hval
  obtain ⟨fuel, hf⟩ := hd
  obtain ⟨asl, h1, h2, _⟩ := open_cells fuel n t ts _ _ ht hf
  exact ⟨asl, h1, by simp only [VR]; exact ⟨cs, rfl, h2⟩⟩
theorem open_cell {t : TypeId} {v : Value} {d : DataW H} {ps : List MemPlace} {n : Nat} {ty : Ty} (hv : v.cells = #[v]) (ht : tyOf P n t = some [ty]) (hd : DataW.Trod enc P w base spare held t v d ps) : ∃ a, HasT ty a ∧ VR (mu0 w) [] a v := by
  obtain ⟨fuel, hf⟩ := hd
  rw [hv] at hf
  obtain ⟨asl, h1, h2, _⟩ := open_cells fuel n t [ty] _ _ ht hf
  simp only [HasTs] at h1
  obtain ⟨a, as', rfl, h1, rfl⟩ := h1
  simp only [VRs] at h2
  obtain ⟨v', vs', h3, h4, _⟩ := h2
  simp at h3
  exact ⟨a, h1, by rw [h3.1]; exact h4⟩
end
theorem has_list {α : Type} {ts : List Ty} {f : α → List AV} (hf : ∀ cs, HasTs ts cs → ∃ x, cs = f x) {a : AV} (h : HasT (.sl ts) a) : ∃ (l : List α) (b : Bool), a = .lst ts.length (b && l.isEmpty) (l.map f) := by
  simp only [HasT] at h
  obtain ⟨nil, es, rfl, hn, hm, he⟩ := h
  have : ∃ l : List α, es = l.map f := by
    clear hn hm
    induction es with
    | nil => exact ⟨[], rfl⟩
    | cons e es ih =>
      obtain ⟨x, hx⟩ := hf e (he e (by simp))
      obtain ⟨l, hl⟩ := ih (fun e' h' => he e' (by simp [h']))
      exact ⟨x :: l, by simp [hx, hl]⟩
  obtain ⟨l, rfl⟩ := this
  refine ⟨l, nil, ?_⟩
  cases nil with
  | false => rfl
  | true =>
    have : l = [] := by simpa using hn rfl
    subst this; rfl
end Go.AM


namespace Go.AM
open Go.Proofs
set_option linter.unusedVariables false
set_option linter.unusedSimpArgs false
set_option linter.constructorNameAsVariable false
set_option maxRecDepth 20000
section
variable {β : Type} {P : Program} {T : Tab} {D : DTab} {N : Nat} {K : AV → Hp → Option β}
theorem F_ref44_Compare_val (sent got : List Gd) (tol : List Int) (b1 b2 b3 : Bool) (h1 : sent.length < 1000) (h2 : got.length < 1000) (h3 : tol.length < 1000) (h : Hp) :
    F_ref44_Compare [.lst 3 b1 (sent.map encG), .lst 3 b2 (got.map encG), .lst 1 b3 (tol.map encI)] h = some (.tup [.lst 8 ((cmpS sent got tol).2 != 0) ((cmpS sent got tol).1.map encLn), I (cmpS sent got tol).2], h) := by
  have base : ∀ w v, f_ref44_Compare Try.prog t_ref44_Compare d_ref44_Compare NN (fun v g => cvt false g v) (.lst 3 b1 (sent.map encG)) (.lst 3 b2 (got.map encG)) (.lst 1 b3 (tol.map encI)) [] = some w → nrmR [.l 8, .o] w = v → F_ref44_Compare [.lst 3 b1 (sent.map encG), .lst 3 b2 (got.map encG), .lst 1 b3 (tol.map encI)] h = some (v, h) := fun w v e1 e2 => by
    rw [← e2]
    exact F_ref44_Compare_run (a0 := .lst 3 b1 (sent.map encG)) (a1 := .lst 3 b2 (got.map encG)) (a2 := .lst 1 b3 (tol.map encI)) rfl e1 h
  have fs := F_ref44_right_val sent b1 (by omega)
  have fg := F_ref44_right_val got b2 (by omega)
  have ln : ∀ k : Go.AM.K AV, lenK (.lst 1 b3 (tol.map encI)) k = k (I tol.length) := fun k => by simp
  unfold cmpS
  cases hr : (rightG sent && rightG got) with
  | false =>
    refine base (.tup [nilS, I 1]) _ ?_ rfl
    generalize sent.map encG = S at *
    generalize got.map encG = G at *
    generalize tol.map encI = TT at *
    have : ¬ (rightG sent = true ∧ rightG got = true) := by simpa using hr
    cases e1 : rightG sent <;> cases e2 : rightG got <;> simp [e1, e2] at this fs fg
    all_goals simp [f_ref44_Compare, fs, fg]
  | true =>
    simp only [Bool.and_eq_true] at hr
    rw [hr.1] at fs
    rw [hr.2] at fg
    rw [if_neg (by simp)]
    by_cases hn : tol.length = 9
    · have hn' : ((tol.length : Int) == 9) = true := by simp [hn]
      rw [if_neg (by simp [hn])]
      have L13 := ref44_L13 (P := Try.prog) (T := t_ref44_Compare) (D := d_ref44_Compare) (N := NN) (x0 := fun w158_0 w158_1 w158_2 h => f_ref44_Compare_j1 Try.prog t_ref44_Compare d_ref44_Compare NN (fun v g => cvt false g v) w158_0 w158_1 w158_2 h) (xr := fun w159_6 w159_7 h => cvt false h (.tup [w159_6, w159_7])) (v0 := .lst 3 b1 (sent.map encG)) (v1 := .lst 3 b2 (got.map encG)) tol b3 [] (by omega) NN [] tol rfl (by have := NN_ge; omega)
      have red : f_ref44_Compare Try.prog t_ref44_Compare d_ref44_Compare NN (fun v g => cvt false g v) (.lst 3 b1 (sent.map encG)) (.lst 3 b2 (got.map encG)) (.lst 1 b3 (tol.map encI)) [] = if (tol.any fun n => !win n 0 10000) = true then cvt false [] (.tup [nilS, I 2]) else f_ref44_Compare_j1 Try.prog t_ref44_Compare d_ref44_Compare NN (fun v g => cvt false g v) (.lst 3 b1 (sent.map encG)) (.lst 3 b2 (got.map encG)) (.lst 1 b3 (tol.map encI)) [] := by
        rw [← L13]
        clear L13 base
        generalize sent.map encG = S at *
        generalize got.map encG = G at *
        generalize tol.map encI = TT at *
        simp [f_ref44_Compare, fs, fg, ln, hn']
      cases ha : (tol.any fun n => !win n 0 10000) with
      | true =>
        rw [ha, if_pos rfl] at red
        exact base (.tup [nilS, I 2]) _ (red.trans (by simp)) rfl
      | false =>
        rw [ha, if_neg (by simp)] at red
        rw [if_neg (by simp)]
        have hok : okTol tol := ⟨hn, fun n hn => by
          have : win n 0 10000 = true := by simpa using List.any_eq_false.1 ha n hn
          simpa [win] using this⟩
        obtain ⟨l1, c1, -⟩ := rightG_spec hr.1
        obtain ⟨l2, c2, -⟩ := rightG_spec hr.2
        have L12 := ref44_L12 (β := AV) (P := Try.prog) (T := t_ref44_Compare) (D := d_ref44_Compare) (N := NN) (by simp) (x2 := fun w144_0 w144_1 w144_2 h => f_ref44_Compare_j2 Try.prog t_ref44_Compare d_ref44_Compare NN (fun v g => cvt false g v) w144_0 w144_1 w144_2 h) (xr := fun w145_6 w145_7 h => cvt false h (.tup [w145_6, w145_7])) (v2 := .lst 1 b3 (tol.map encI))
          (X := some (if 64 < (allG sent got).length then .tup [nilS, I 8] else .tup [.lst 8 false (((allG sent got).foldl (fun o g => insE o (lineR sent got tol g)) []).map encLn), I 0])) (Y := some (.tup [nilS, I 18])) sent got b1 b2 (fun h => by
            have ap1 : ∀ k : AV → Hp → Option AV, effK (appE 3 24 (.sl 3 h.length 0 0 0 true) (.lst 3 b1 (sent.map encG)) (h ++ [.arr 3 [] true false]) (List.length (h ++ [AObj.arr 3 [] true false]))) (h ++ [.arr 3 [] true false]) k = k (.sl 3 (h.length + 1) 0 sent.length sent.length false) (h ++ [.arr 3 [] true false, .arr 3 (sent.map encG) true false]) := fun k => by
              have hb : sent.length * 24 ≤ 140737488355328 := by omega
              have hal : ((sent.map encG).all fun e => e.length == 3) = true := by simp [encG]
              simp [appE, readSl, hb, hal, effK, ap]
            have hall1 : ∀ g ∈ allG sent got, badG g = false := fun g hg => by
              unfold allG at hg
              rw [List.mem_append, List.mem_filter] at hg
              rcases hg with hg | ⟨hg, -⟩
              · exact c1 g hg
              · exact c2 g hg
            have hlen2 : (allG sent got).length < 2000 := by
              have := List.length_filter_le (fun g => (findG sent g.id).id == 0) got
              unfold allG; rw [List.length_append]; omega
            have L9 := ref44_L9 (β := AV) (P := Try.prog) (T := t_ref44_Compare) (D := d_ref44_Compare) (N := NN) (by simp) (x4 := fun w119_0 w119_1 w119_2 w119_11 h => f_ref44_Compare_j3 Try.prog t_ref44_Compare d_ref44_Compare NN (fun v g => cvt false g v) w119_0 w119_1 w119_2 w119_11 h) (v2 := .lst 1 b3 (tol.map encI)) sent got b1 b2 h1 h2
              (X := some (if 64 < (allG sent got).length then .tup [nilS, I 8] else .tup [.lst 8 false (((allG sent got).foldl (fun o g => insE o (lineR sent got tol g)) []).map encLn), I 0]))
              (fun h v hO => by
                have hlv := fun k : Go.AM.K AV => hO.len (β := AV) k
                by_cases h64 : 64 < (allG sent got).length
                · have h64' : (64 : Int) < ((allG sent got).length : Int) := by omega
                  rw [if_pos h64]
                  simp [f_ref44_Compare_j3, hlv, h64']
                · have h64' : ¬ (64 : Int) < ((allG sent got).length : Int) := by omega
                  rw [if_neg h64]
                  obtain ⟨qa, ba, rfl, hq1, hq2⟩ := hO
                  have L5 := ref44_L5 (β := AV) (N := NN) (by have := NN_ge; omega) (x6 := fun w102_13 h => f_ref44_Compare_j4 Try.prog t_ref44_Compare d_ref44_Compare NN (fun v g => cvt false g v) w102_13 h) (X := fun o => some (.tup [.lst 8 false (o.map encLn), I 0])) sent got tol b1 b2 b3 h1 h2 hok (allG sent got) qa ba hlen2 c1 c2 hall1
                    (fun h v o hO => by
                      have := hO.cvt (fun x st => by cases st <;> simp [encLn, isS]) false
                      simp [f_ref44_Compare_j4, this]) NN [] (allG sent got) [] (.sl 8 h.length 0 0 0 true) (h ++ [.arr 8 [] true false]) rfl (by have := NN_ge; omega) (get_app hq1) ⟨h.length, true, rfl, by rw [get_new0]; rfl, fun _ => rfl⟩ (by have := (List.getElem?_eq_some_iff.1 hq1).1; simp; omega) rfl
                  refine Eq.trans ?_ L5
                  clear L5
                  generalize sent.map encG = S at *
                  generalize got.map encG = G at *
                  generalize tol.map encI = TT at *
                  simp [f_ref44_Compare_j3, hlv, h64', bsE, fillS])
              NN [] got sent (.sl 3 (h.length + 1) 0 sent.length sent.length false) (h ++ [.arr 3 [] true false, .arr 3 (sent.map encG) true false]) rfl (by have := NN_ge; omega) ⟨h.length + 1, false, rfl, by rw [get_new]; rfl, by simp⟩ (by omega) rfl
            refine Eq.trans ?_ L9
            clear L9
            simp only [f_ref44_Compare_j2]
            have bs : ∀ k : AV → Hp → Option AV, effK (bsE 3 [I 0, I 0, I 0] 0 [] (List.length h)) h k = k (.sl 3 h.length 0 0 0 true) (h ++ [.arr 3 [] true false]) := fun k => by simp [bsE, fillS]
            rw [bs, ap1]
            rfl) (fun h => by simp) (by omega) (by omega) NN [] sent [] rfl (by have := NN_ge; omega)
        have red2 := red.trans L12
        clear red L12
        rw [clash_eq hr.1 hr.2] at red2
        cases hcl : (mergeG sent got).any clashG with
        | true =>
          rw [hcl, if_pos rfl] at red2
          rw [if_pos rfl]
          exact base _ _ red2 rfl
        | false =>
          rw [hcl, if_neg (by simp), ref_len hr.1 hr.2 hcl, ref_lines hr.1 hr.2 hcl] at red2
          rw [if_neg (by simp)]
          by_cases h64 : 64 < (mergeG sent got).length
          · rw [if_pos h64] at red2 ⊢
            exact base _ _ red2 rfl
          · rw [if_neg h64] at red2 ⊢
            exact base _ _ red2 rfl
    · have hn' : ((tol.length : Int) == 9) = false := by simpa using (fun h : (tol.length : Int) = 9 => hn (by omega))
      rw [if_pos (by simpa using hn)]
      refine base (.tup [nilS, I 10]) _ ?_ rfl
      generalize sent.map encG = S at *
      generalize got.map encG = G at *
      generalize tol.map encI = TT at *
      simp [f_ref44_Compare, fs, fg, ln, hn']
theorem F_ref44_Verify_val (sent got : List Gd) (tol : List Int) (l : List Ln) (b1 b2 b3 b4 : Bool) (h1 : sent.length < 1000) (h2 : got.length < 1000) (h3 : tol.length < 1000) (h : Hp) :
    F_ref44_Verify [.lst 3 b1 (sent.map encG), .lst 3 b2 (got.map encG), .lst 1 b3 (tol.map encI), .lst 8 b4 (l.map encLn)] h = some (I (verifyS sent got tol l), h) := by
  refine F_ref44_Verify_run rfl ?_ h
  have fc := F_ref44_Compare_val sent got tol b1 b2 b3 h1 h2 h3
  have fe := F_ref44_Same_val (cmpS sent got tol).1 l ((cmpS sent got tol).2 != 0) b4 (by have := cmpS_len sent got tol; omega)
  unfold verifyS
  generalize cmpS sent got tol = cc at *
  obtain ⟨o, er⟩ := cc
  dsimp only at *
  generalize sent.map encG = S1 at *
  generalize got.map encG = S2 at *
  generalize tol.map encI = S3 at *
  generalize l.map encLn = S4 at *
  generalize o.map encLn = S5 at *
  by_cases q1 : er = 0
  · by_cases q2 : o = l
    · subst q2
      subst q1
      simp at fe fc
      simp [f_ref44_Verify, fc, fe]
    · subst q1
      simp [q2] at fe fc
      simp [f_ref44_Verify, fc, fe, q2]
  · have q1' : (er == 0) = false := by simpa using q1
    simp [f_ref44_Verify, fc, q1, q1']
end
end Go.AM


namespace Go.AM
open Go.Proofs
set_option linter.unusedVariables false
set_option linter.unusedSimpArgs false
set_option linter.constructorNameAsVariable false
set_option maxRecDepth 20000
section
variable {β : Type} {P : Program} {T : Tab} {D : DTab} {N : Nat} {K : AV → Hp → Option β}
abbrev SL {α : Type} (sz : Nat) (f : α → List AV) (b : Bool) (l : List α) : AV := .lst sz (b && l.isEmpty) (l.map f)
theorem F_slices_Clone_Good_val (l : List Gd) (b : Bool) (hl : l.length < 1000000) (h : Hp) : F_slices_Clone_Good [SL 3 encG b l] h = some (SL 3 encG b l, h) := by
  refine (F_slices_Clone_Good_run (v := if b && l.isEmpty then nilS else SL 3 encG b l) rfl ?_ h).trans ?_
  · by_cases hb : (b && l.isEmpty) = true
    · simp [f_slices_Clone_Good, hb]
    · have hb' : (b && l.isEmpty) = false := by simpa using hb
      have hle : l.length * 24 ≤ 140737488355328 := by omega
      have h2 : ((l.map encG).all fun e => e.length == 3) = true := by simp [encG]
      have h3 : okE false (l.map encG) = true := okE_map (by intro x; simp [encG])
      simp [f_slices_Clone_Good, hb', bsE, fillS, appE, readSl, hle, h2, ap]
      rw [cvt_whole rfl (by simp) (by simp) h3, SL, hb']
  · by_cases hb : (b && l.isEmpty) = true
    · obtain ⟨rfl, hl0⟩ := Bool.and_eq_true_iff.1 hb
      have : l = [] := by simpa using hl0
      subst this
      rfl
    · rw [if_neg hb]
      rfl
theorem F_slices_Clone_int_val (l : List Int) (b : Bool) (hl : l.length < 1000000) (h : Hp) : F_slices_Clone_int [SL 1 encI b l] h = some (SL 1 encI b l, h) := by
  refine (F_slices_Clone_int_run (v := if b && l.isEmpty then nilS else SL 1 encI b l) rfl ?_ h).trans ?_
  · by_cases hb : (b && l.isEmpty) = true
    · simp [f_slices_Clone_int, hb]
    · have hb' : (b && l.isEmpty) = false := by simpa using hb
      have hle : l.length * 8 ≤ 140737488355328 := by omega
      have h2 : ((l.map encI).all fun e => e.length == 1) = true := by simp [encI]
      have h3 : okE false (l.map encI) = true := okE_map (by intro x; simp [encI])
      simp [f_slices_Clone_int, hb', bsE, fillS, appE, readSl, hle, h2, ap]
      rw [cvt_whole rfl (by simp) (by simp) h3, SL, hb']
  · by_cases hb : (b && l.isEmpty) = true
    · obtain ⟨rfl, hl0⟩ := Bool.and_eq_true_iff.1 hb
      have : l = [] := by simpa using hl0
      subst this
      rfl
    · rw [if_neg hb]
      rfl
theorem F_slices_Clone_Line_val (l : List Ln) (b : Bool) (hl : l.length < 1000000) (h : Hp) : F_slices_Clone_Line [SL 8 encLn b l] h = some (SL 8 encLn b l, h) := by
  refine (F_slices_Clone_Line_run (v := if b && l.isEmpty then nilS else SL 8 encLn b l) rfl ?_ h).trans ?_
  · by_cases hb : (b && l.isEmpty) = true
    · simp [f_slices_Clone_Line, hb]
    · have hb' : (b && l.isEmpty) = false := by simpa using hb
      have hle : l.length * 64 ≤ 140737488355328 := by omega
      have h2 : ((l.map encLn).all fun e => e.length == 8) = true := by simp [encLn]
      have h3 : okE false (l.map encLn) = true := okE_map (by intro x; simp [encLn])
      simp [f_slices_Clone_Line, hb', bsE, fillS, appE, readSl, hle, h2, ap]
      rw [cvt_whole rfl (by simp) (by simp) h3, SL, hb']
  · by_cases hb : (b && l.isEmpty) = true
    · obtain ⟨rfl, hl0⟩ := Bool.and_eq_true_iff.1 hb
      have : l = [] := by simpa using hl0
      subst this
      rfl
    · rw [if_neg hb]
      rfl
end
def fewN (n : Nat) : Bool := decide (n ≤ 12) || n == 65
def fewM (n : Nat) : Bool := decide (n ≤ 24) || n == 65
theorem few_K {β : Type} (P : Program) (n : Nat) (h : Hp) (K : AV → Hp → Option β) (a b : Nat) : grpK false (B (decide ((n : Int) ≤ (a : Int)))) h (fun k3 => k3 (B ((n : Int) == (b : Int))) h) K = K (B (decide (n ≤ a) || n == b)) h := by
  rw [grpK_or]
  have e1 : decide ((n : Int) ≤ (a : Int)) = decide (n ≤ a) := by simp
  have e2 : ((n : Int) == (b : Int)) = (n == b) := by rw [Bool.eq_iff_iff]; simp; omega
  rw [e1, e2]
theorem F_ref44_Few_val (l : List Gd) (b : Bool) (h : Hp) : F_ref44_Few [.lst 3 b (l.map encG)] h = some (B (fewN l.length), h) :=
  F_ref44_Few_run (a0 := .lst 3 b (l.map encG)) rfl (by
    have ln : ∀ k : Go.AM.K AV, lenK (.lst 3 b (l.map encG)) k = k (I l.length) := fun k => by simp
    show f_ref44_Few _ _ _ _ _ (.lst 3 b (l.map encG)) _ = _
    simp only [f_ref44_Few, ln, arithK_leq, eqK_int, Bool.false_xor]
    exact few_K Try.prog l.length [] _ 12 65) h
theorem F_ref44_FewLines_val (l : List Ln) (b : Bool) (h : Hp) : F_ref44_FewLines [.lst 8 b (l.map encLn)] h = some (B (fewM l.length), h) :=
  F_ref44_FewLines_run (a0 := .lst 8 b (l.map encLn)) rfl (by
    have ln : ∀ k : Go.AM.K AV, lenK (.lst 8 b (l.map encLn)) k = k (I l.length) := fun k => by simp
    show f_ref44_FewLines _ _ _ _ _ (.lst 8 b (l.map encLn)) _ = _
    simp only [f_ref44_FewLines, ln, arithK_leq, eqK_int, Bool.false_xor]
    exact few_K Try.prog l.length [] _ 24 65) h
theorem fewN_bd {n : Nat} (h : fewN n = true) : n ≤ 65 := by simp [fewN] at h; omega
theorem fewM_bd {n : Nat} (h : fewM n = true) : n ≤ 65 := by simp [fewM] at h; omega
structure Prc where
  b1 : Bool
  sent : List Gd
  b2 : Bool
  got : List Gd
  b3 : Bool
  tol : List Int
def encPr (p : Prc) : List AV := [SL 3 encG p.b1 p.sent, SL 3 encG p.b2 p.got, SL 1 encI p.b3 p.tol]
def fewP (p : Prc) : Bool := fewN p.sent.length && (fewN p.got.length && decide (p.tol.length ≤ 12))
theorem F_law44_few_val (p : Prc) (h : Hp) : F_law44_few [.agg (encPr p)] h = some (B (fewP p), h) := by
  refine F_law44_few_run (a0 := .agg (encPr p)) (by simp [encPr]) ?_ h
  have f1 := F_ref44_Few_val p.sent (p.b1 && p.sent.isEmpty)
  have f2 := F_ref44_Few_val p.got (p.b2 && p.got.isEmpty)
  show f_law44_few _ _ _ _ _ (.agg (encPr p)) _ = _
  simp only [encPr, SL] at f1 f2 ⊢
  generalize p.sent.map encG = S at *
  generalize p.got.map encG = G at *
  have ln : ∀ k : Go.AM.K AV, lenK (.lst 1 (p.b3 && p.tol.isEmpty) (p.tol.map encI)) k = k (I p.tol.length) := fun k => by simp
  have e : decide ((p.tol.length : Int) ≤ 12) = decide (p.tol.length ≤ 12) := by simp; omega
  generalize p.tol.map encI = TT at *
  simp [f_law44_few, boxE, f1, f2, ln, fewP, e, Bool.and_assoc]
def cmpP (p : Prc) : List Ln × Int := cmpS p.sent p.got p.tol
theorem F_law44_compare_val (p : Prc) (h1 : p.sent.length < 1000) (h2 : p.got.length < 1000) (h3 : p.tol.length < 1000) (h : Hp) : F_law44_compare [.agg (encPr p)] h = some (.tup [.lst 8 (cmpP p).1.isEmpty ((cmpP p).1.map encLn), I (cmpP p).2], h) := by
  have c1 := F_slices_Clone_Good_val p.sent p.b1 (by omega)
  have c2 := F_slices_Clone_Good_val p.got p.b2 (by omega)
  have c3 := F_slices_Clone_int_val p.tol p.b3 (by omega)
  have cc := F_receipt_Compare_val p.sent p.got p.tol (p.b1 && p.sent.isEmpty) (p.b2 && p.got.isEmpty) (p.b3 && p.tol.isEmpty) h1 h2 h3
  have g1 : ∀ h base, G_slices_Clone_Good [SL 3 encG p.b1 p.sent] h base = some (SL 3 encG p.b1 p.sent, EF []) := fun h base => (closedXD_val (c1 h) base).trans (by simp [idss, ids])
  have g2 : ∀ h base, G_slices_Clone_Good [SL 3 encG p.b2 p.got] h base = some (SL 3 encG p.b2 p.got, EF []) := fun h base => (closedXD_val (c2 h) base).trans (by simp [idss, ids])
  have g3 : ∀ h base, G_slices_Clone_int [SL 1 encI p.b3 p.tol] h base = some (SL 1 encI p.b3 p.tol, EF []) := fun h base => (closedXD_val (c3 h) base).trans (by simp [idss, ids])
  have g4 : ∀ h base, G_receipt_Compare [SL 3 encG p.b1 p.sent, SL 3 encG p.b2 p.got, SL 1 encI p.b3 p.tol] h base = some (.tup [.lst 8 (cmpP p).1.isEmpty ((cmpP p).1.map encLn), I (cmpP p).2], EF []) := fun h base => (closedXD_val (cc h) base).trans (by simp [idss, ids, cmpP])
  refine (F_law44_compare_run (a0 := .agg (encPr p)) (v := .tup [.lst 8 (cmpP p).1.isEmpty ((cmpP p).1.map encLn), I (cmpP p).2]) (by simp [encPr]) ?_ h).trans rfl
  show f_law44_compare _ _ _ _ _ (.agg (encPr p)) _ = _
  simp only [encPr]
  generalize cmpP p = cp at *
  obtain ⟨o, er⟩ := cp
  dsimp only at *
  generalize o.map encLn = O at *
  generalize o.isEmpty = oe at *
  simp only [SL] at g1 g2 g3 g4 ⊢
  generalize p.sent.map encG = S at *
  generalize p.got.map encG = G at *
  generalize p.tol.map encI = TT at *
  simp [f_law44_compare, boxE, g1, g2, g3, g4, disjAll, disj2, idsOf, wrOf]
abbrev exSent : List Gd := [⟨1, 1, 1000⟩, ⟨2, 2, 500⟩]
abbrev exGot : List Gd := [⟨1, 1, 960⟩, ⟨3, 2, 7⟩]
abbrev exTol : List Int := [300, 0, 0, 0, 0, 0, 0, 0, 0]
abbrev exLines : List Ln := [⟨1, 1, 1000, 960, ⟨30, 0, 10, 0⟩⟩, ⟨2, 2, 500, 0, ⟨0, 0, 500, 0⟩⟩, ⟨3, 2, 0, 7, ⟨0, 0, 0, 7⟩⟩]
theorem F_law44_example_val (h : Hp) : F_law44_example [] h = some (.tup [.lst 3 false (exSent.map encG), .lst 3 false (exGot.map encG), .lst 1 false (exTol.map encI)], h) := by
  refine (F_law44_example_run (v := .tup [.lst 3 false (exSent.map encG), .lst 3 false (exGot.map encG), .lst 1 false (exTol.map encI)]) rfl ?_ h).trans rfl
  simp [f_law44_example, buildK, fillA, bsE, fillS, encG, cvt, okE]
theorem ex_cmp : cmpS exSent exGot exTol = (exLines, 0) := by
  have h1 : rightG exSent = true := by decide
  have h2 : rightG exGot = true := by decide
  have h3 : mergeG exSent exGot = [(⟨1, 1, 1000⟩, ⟨1, 1, 960⟩), (⟨2, 2, 500⟩, zG), (zG, ⟨3, 2, 7⟩)] := by simp [mergeG]
  unfold cmpS
  rw [h1, h2, h3]
  decide
theorem F_law44_awake_val (h : Hp) : F_law44_awake [] h = some (B true, h) := by
  refine F_law44_awake_run rfl ?_ h
  have fe := F_law44_example_val
  have r1 := F_receipt_Compare_val exSent exGot exTol false false false (by decide) (by decide) (by decide)
  rw [ex_cmp] at r1
  have r2 := F_receipt_Total_val exLines false (by decide)
  rw [show totalLn exLines = ((1500, 967, ⟨30, 0, 510, 7⟩), 0) by decide] at r2
  have r3 := F_receipt_Accepts_val exLines false 510 (by decide)
  rw [show acceptLn exLines 510 = (true, 0) by decide] at r3
  have r4 := F_receipt_Accepts_val exLines false 509 (by decide)
  rw [show acceptLn exLines 509 = (false, 0) by decide] at r4
  have r5 := F_slices_Equal_Line_val exLines exLines false false (by decide)
  have r6 := F_receipt_Verify_val exSent exGot exTol exLines false false false false (by decide) (by decide) (by decide)
  rw [show verifyS exSent exGot exTol exLines = 0 by unfold verifyS; rw [ex_cmp]; decide] at r6
  have hcv : ∀ (h : Hp) (id : Nat), h[id]? = some (.arr 8 (exLines.map encLn) true false) → cvt false h (.sl 8 id 0 3 3 true) = some (.lst 8 false (exLines.map encLn)) := fun h id hid => cvt_whole hid rfl rfl rfl
  have r5' : ∀ (h : Hp) (id : Nat), h[id]? = some (.arr 8 (exLines.map encLn) true false) → F_slices_Equal_Line [.lst 8 false (exLines.map encLn), .sl 8 id 0 3 3 true] h = some (B true, h) := fun h id hid =>
    closedX_scal (asl := [.lst 8 false (exLines.map encLn), .lst 8 false (exLines.map encLn)]) (h0 := []) (by simp only [cvts, hcv h id hid]; rfl) ((r5 []).trans (by simp)) rfl
  have r6' : ∀ (h : Hp) (id : Nat), h[id]? = some (.arr 8 (exLines.map encLn) true false) → F_receipt_Verify [.lst 3 false (exSent.map encG), .lst 3 false (exGot.map encG), .lst 1 false (exTol.map encI), .sl 8 id 0 3 3 true] h = some (I 0, h) := fun h id hid =>
    closedX_scal (asl := [.lst 3 false (exSent.map encG), .lst 3 false (exGot.map encG), .lst 1 false (exTol.map encI), .lst 8 false (exLines.map encLn)]) (h0 := []) (by simp only [cvts, hcv h id hid]; rfl) (r6 []) rfl
  have hE : exLines.map encLn = [[I 1, I 1, I 1000, I 960, I 30, I 0, I 10, I 0], [I 2, I 2, I 500, I 0, I 0, I 0, I 500, I 0], [I 3, I 2, I 0, I 7, I 0, I 0, I 0, I 7]] := rfl
  simp only [List.isEmpty_cons] at r1
  simp only [encO] at r2
  generalize exSent.map encG = S at *
  generalize exGot.map encG = G at *
  generalize exTol.map encI = TT at *
  rw [hE] at r1 r2 r3 r4 r5' r6'
  clear hE hcv r5 r6
  simp [f_law44_awake, fe, r1, r2, r3, r4, r5', r6', boxE, stE, ap, bsE, fillS, buildK, fillA, eqs_44, show IntKind.i64.wrap 0 = 0 from by kernel_rfl]
end Go.AM


namespace Go.AM
open Go.Proofs
set_option linter.unusedVariables false
set_option linter.unusedSimpArgs false
set_option linter.constructorNameAsVariable false
set_option maxRecDepth 20000
theorem has_Gd {cs : List AV} (h : HasTs [.int .i64, .int .i64, .int .i64] cs) : ∃ p : Gd, cs = encG p := by
  simp only [HasTs, HasT] at h
  obtain ⟨_, _, rfl, ⟨a, rfl, _⟩, _, _, rfl, ⟨b, rfl, _⟩, _, _, rfl, ⟨c, rfl, _⟩, rfl⟩ := h
  exact ⟨⟨a, b, c⟩, rfl⟩
theorem has_Gds {a : AV} (h : HasT (.sl [.int .i64, .int .i64, .int .i64]) a) : ∃ (l : List Gd) (b : Bool), a = SL 3 encG b l := has_list (fun _ h => has_Gd h) h
theorem has_Ln {cs : List AV} (h : HasTs [.int .i64, .int .i64, .int .i64, .int .i64, .int .i64, .int .i64, .int .i64, .int .i64] cs) : ∃ p : Ln, cs = encLn p := by
  simp only [HasTs, HasT] at h
  obtain ⟨_, _, rfl, ⟨a, rfl, _⟩, _, _, rfl, ⟨b, rfl, _⟩, _, _, rfl, ⟨c, rfl, _⟩, _, _, rfl, ⟨d, rfl, _⟩, _, _, rfl, ⟨e, rfl, _⟩, _, _, rfl, ⟨f, rfl, _⟩, _, _, rfl, ⟨g, rfl, _⟩, _, _, rfl, ⟨i, rfl, _⟩, rfl⟩ := h
  exact ⟨⟨a, b, c, d, ⟨e, f, g, i⟩⟩, rfl⟩
theorem has_Lns {a : AV} (h : HasT (.sl [.int .i64, .int .i64, .int .i64, .int .i64, .int .i64, .int .i64, .int .i64, .int .i64]) a) : ∃ (l : List Ln) (b : Bool), a = SL 8 encLn b l := has_list (fun _ h => has_Ln h) h
theorem has_Int1 {cs : List AV} (h : HasTs [.int .i64] cs) : ∃ p : Int, cs = encI p := by
  simp only [HasTs, HasT] at h
  obtain ⟨_, _, rfl, ⟨a, rfl, _⟩, rfl⟩ := h
  exact ⟨a, rfl⟩
theorem has_Ints {a : AV} (h : HasT (.sl [.int .i64]) a) : ∃ (l : List Int) (b : Bool), a = SL 1 encI b l := has_list (fun _ h => has_Int1 h) h
theorem has_Prc {cs : List AV} (h : HasTs [.sl [.int .i64, .int .i64, .int .i64], .sl [.int .i64, .int .i64, .int .i64], .sl [.int .i64]] cs) : ∃ p : Prc, cs = encPr p := by
  simp only [HasTs] at h
  obtain ⟨_, _, rfl, ha, _, _, rfl, hb, _, _, rfl, hc, rfl⟩ := h
  obtain ⟨l1, b1, rfl⟩ := has_Gds ha
  obtain ⟨l2, b2, rfl⟩ := has_Gds hb
  obtain ⟨l3, b3, rfl⟩ := has_Ints hc
  exact ⟨⟨b1, l1, b2, l2, b3, l3⟩, rfl⟩
set_option maxHeartbeats 4000000 in
theorem compares_law (p : Prc) (l : List Ln) (b : Bool) : F_law44_ReceiptCompares [.agg (encPr p), SL 8 encLn b l] [] = some (B true, []) := by
  refine F_law44_ReceiptCompares_run (a0 := .agg (encPr p)) (a1 := SL 8 encLn b l) (by simp [encPr]) ?_ []
  have fw := F_law44_few_val p
  have fl := F_ref44_FewLines_val l (b && l.isEmpty)
  simp only [nrm, nrmC, SL]
  cases h1 : fewP p with
  | false =>
    rw [h1] at fw
    simp only [encPr, SL] at fw ⊢
    generalize p.sent.map encG = S at *
    generalize p.got.map encG = G at *
    generalize p.tol.map encI = TT at *
    generalize l.map encLn = L at *
    simp [f_law44_ReceiptCompares, F_law44_awake_val, boxE, fw]
  | true =>
    rw [h1] at fw
    simp only [fewP, Bool.and_eq_true, decide_eq_true_eq] at h1
    have k1 := fewN_bd h1.1
    have k2 := fewN_bd h1.2.1
    have k3 := h1.2.2
    cases h2 : fewM l.length with
    | false =>
      rw [h2] at fl
      simp only [encPr, SL] at fw ⊢
      generalize p.sent.map encG = S at *
      generalize p.got.map encG = G at *
      generalize p.tol.map encI = TT at *
      generalize l.map encLn = L at *
      simp [f_law44_ReceiptCompares, F_law44_awake_val, boxE, fw, fl]
    | true =>
      rw [h2] at fl
      have k4 := fewM_bd h2
      have c1 := F_slices_Clone_Good_val p.sent p.b1 (by omega)
      have g1 : ∀ h base, G_slices_Clone_Good [SL 3 encG p.b1 p.sent] h base = some (SL 3 encG p.b1 p.sent, EF []) := fun h base => (closedXD_val (c1 h) base).trans (by simp [idss, ids])
      have g2 : ∀ h base, G_slices_Clone_Good [SL 3 encG p.b2 p.got] h base = some (SL 3 encG p.b2 p.got, EF []) := fun h base => (closedXD_val (F_slices_Clone_Good_val p.got p.b2 (by omega) h) base).trans (by simp [idss, ids])
      have g3 : ∀ h base, G_slices_Clone_int [SL 1 encI p.b3 p.tol] h base = some (SL 1 encI p.b3 p.tol, EF []) := fun h base => (closedXD_val (F_slices_Clone_int_val p.tol p.b3 (by omega) h) base).trans (by simp [idss, ids])
      have g4 : ∀ h base, G_slices_Clone_Line [SL 8 encLn b l] h base = some (SL 8 encLn b l, EF []) := fun h base => (closedXD_val (F_slices_Clone_Line_val l b (by omega) h) base).trans (by simp [idss, ids])
      have e1 := F_receipt_Check_val p.sent (p.b1 && p.sent.isEmpty) (by omega)
      have e2 := F_ref44_Check_val p.sent (p.b1 && p.sent.isEmpty) (by omega)
      have e3 := F_law44_compare_val p (by omega) (by omega) (by omega)
      have e4 := F_ref44_Compare_val p.sent p.got p.tol (p.b1 && p.sent.isEmpty) (p.b2 && p.got.isEmpty) (p.b3 && p.tol.isEmpty) (by omega) (by omega) (by omega)
      have ln := cmpS_len p.sent p.got p.tol
      have e5 := F_ref44_Same_val (cmpP p).1 (cmpP p).1 (cmpP p).1.isEmpty ((cmpP p).2 != 0) (by unfold cmpP; omega)
      have g5 : ∀ h base, G_ref44_Same [.lst 8 (cmpP p).1.isEmpty ((cmpP p).1.map encLn), .lst 8 ((cmpP p).2 != 0) ((cmpP p).1.map encLn)] h base = some (B true, EF []) := fun h base => (closedXD_val (e5 h) base).trans (by simp [idss, ids])
      have v1 := F_receipt_Verify_val p.sent p.got p.tol l (p.b1 && p.sent.isEmpty) (p.b2 && p.got.isEmpty) (p.b3 && p.tol.isEmpty) (b && l.isEmpty) (by omega) (by omega) (by omega)
      have v2 := F_ref44_Verify_val p.sent p.got p.tol l (p.b1 && p.sent.isEmpty) (p.b2 && p.got.isEmpty) (p.b3 && p.tol.isEmpty) (b && l.isEmpty) (by omega) (by omega) (by omega)
      have g6 : ∀ h base, G_receipt_Verify [SL 3 encG p.b1 p.sent, SL 3 encG p.b2 p.got, SL 1 encI p.b3 p.tol, SL 8 encLn b l] h base = some (I (verifyS p.sent p.got p.tol l), EF []) := fun h base => (closedXD_val (v1 h) base).trans (by simp [idss, ids])
      have g7 : ∀ h base, G_ref44_Verify [SL 3 encG p.b1 p.sent, SL 3 encG p.b2 p.got, SL 1 encI p.b3 p.tol, SL 8 encLn b l] h base = some (I (verifyS p.sent p.got p.tol l), EF []) := fun h base => (closedXD_val (v2 h) base).trans (by simp [idss, ids])
      change ∀ h, _ = some (AV.tup [.lst 8 ((cmpP p).2 != 0) ((cmpP p).1.map encLn), I (cmpP p).2], h) at e4
      clear e5 v1 v2 ln h1 h2 k1 k2 k3 k4
      generalize verifyS p.sent p.got p.tol l = vv at *
      generalize checkD p.sent = cd at *
      generalize cmpP p = cp at *
      obtain ⟨o, er⟩ := cp
      obtain ⟨ci, ce⟩ := cd
      dsimp only at *
      generalize o.map encLn = O at *
      generalize o.isEmpty = oe at *
      simp only [encPr, SL] at c1 e3 g1 g2 g3 g4 g5 g6 g7 fw ⊢
      generalize p.sent.map encG = S at *
      generalize p.got.map encG = G at *
      generalize p.tol.map encI = TT at *
      generalize l.map encLn = L at *
      simp (maxSteps := 10000000) [f_law44_ReceiptCompares, F_law44_awake_val, boxE, fw, fl, c1, e1, e2, e3, e4, g1, g2, g3, g4, g5, g6, g7, disjAll, disj2, idsOf, wrOf]
end Go.AM

