import Derived.Test.YtlnjnfbdcdmacaaTab
import Derived.Test.YtlnjnfbdcdmacaaAmDiv
import Derived.Lib.Mul64
/- math/bits: the high and the low half of a product, the length of a number, and the quotient of 128 bits by 64. -/
namespace Go.AM
open Go.Proofs
set_option linter.unusedVariables false
set_option linter.unusedSimpArgs false
set_option linter.constructorNameAsVariable false
set_option maxRecDepth 20000
section
variable {β : Type} {P : Program} {T : Tab} {D : DTab} {N : Nat}
theorem dec_u (a b : Nat) : decide ((a : Int) ≤ (b : Int)) = decide (a ≤ b) := by apply decide_eq_decide.2; omega
theorem dec_ul (a b : Nat) : decide ((a : Int) < (b : Int)) = decide (a < b) := by apply decide_eq_decide.2; omega
theorem b8_step {xn : AV → AV → AV → AV → AV → AV → AV → AV → AV → Hp → Option β} {x0 : AV → AV → AV → AV → AV → AV → AV → AV → Hp → Option β} {v2 v8 v11 v14 : AV} {h : Hp} {q r y1 y0 c : Nat}
    (hq : q < 17179869184) (hr : r < 4294967296) (hy1 : y1 < 4294967296) (hy0 : y0 < 4294967296) (hc : c < 4294967296) (h0 : 4294967296 ≤ q ∨ 4294967296 * r + c < q * y0 → 0 < q) :
    f_bits_Div64_b8 P T D N xn x0 v2 v8 (U y1) (U y0) v11 (U c) v14 (U q) (U r) h = if 4294967296 ≤ q ∨ 4294967296 * r + c < q * y0 then (if 4294967296 ≤ r + y1 then x0 v2 v8 (U y1) (U y0) v11 (U c) v14 (U (q - 1)) h else xn v2 v8 (U y1) (U y0) v11 (U c) v14 (U (q - 1)) (U (r + y1)) h)
      else x0 v2 v8 (U y1) (U y0) v11 (U c) v14 (U q) h := by
  have m1 : ∀ kk : AV → Option β, arithK .mul (.s (.int .u64 4294967296)) (U r) kk = kk (U (4294967296 * r)) := fun kk => u_mul 4294967296 r (by omega) kk
  have a1 : ∀ kk : AV → Option β, arithK .add (U (4294967296 * r)) (U c) kk = kk (U (4294967296 * r + c)) := fun kk => u_add _ _ (by omega) kk
  have a2 : ∀ kk : AV → Option β, arithK .add (U r) (U y1) kk = kk (U (r + y1)) := fun kk => u_add _ _ (by omega) kk
  have g1 : ∀ (a b : Nat) (kk : AV → Option β), arithK .geq (U a) (.s (.int .u64 (b : Int))) kk = kk (.s (.bool (decide (b ≤ a)))) := fun a b kk => by rw [arithK_geq, dec_u]
  have g2 : ∀ (a : Nat) (kk : AV → Option β), arithK .geq (U a) (.s (.int .u64 4294967296)) kk = kk (.s (.bool (decide (4294967296 ≤ a)))) := fun a kk => g1 a 4294967296 kk
  have tail : 0 < q → (arithK .sub (U q) (.s (.int .u64 1)) fun x54 => arithK .add (U r) (U y1) fun x55 => arithK .geq x55 (.s (.int .u64 4294967296)) fun x56 => condK x56 (x0 v2 v8 (U y1) (U y0) v11 (U c) v14 x54 h) (xn v2 v8 (U y1) (U y0) v11 (U c) v14 x54 x55 h)) =
      if 4294967296 ≤ r + y1 then x0 v2 v8 (U y1) (U y0) v11 (U c) v14 (U (q - 1)) h else xn v2 v8 (U y1) (U y0) v11 (U c) v14 (U (q - 1)) (U (r + y1)) h := by
    intro h0
    have s1 : ∀ kk : AV → Option β, arithK .sub (U q) (.s (.int .u64 1)) kk = kk (U (q - 1)) := fun kk => u_sub q 1 h0 (by omega) kk
    rw [s1, a2, g2, condK_bool]
    simp
  unfold f_bits_Div64_b8
  rw [g2]
  by_cases hb : 4294967296 ≤ q
  · rw [decide_eq_true hb, grpK_ft, condK_bool, if_pos rfl, if_pos (.inl hb), tail (by omega)]
  · have hp : q * y0 < 18446744073709551616 := by
      have : q * y0 ≤ 4294967295 * 4294967295 := Nat.mul_le_mul (by omega) (by omega)
      omega
    have m2 : ∀ kk : AV → Option β, arithK .mul (U q) (U y0) kk = kk (U (q * y0)) := fun kk => u_mul _ _ hp kk
    rw [decide_eq_false hb, grpK_ff, m2, m1, a1, arithK_gtr, dec_ul]
    dsimp only
    rw [condK_bool]
    by_cases hl : 4294967296 * r + c < q * y0
    · rw [decide_eq_true hl, if_pos rfl, if_pos (.inr hl), tail (h0 (.inr hl))]
    · rw [decide_eq_false hl, if_neg (by simp), if_neg (by omega)]
theorem b6_step {xn : AV → AV → AV → AV → AV → AV → AV → AV → AV → Hp → Option β} {x2 : AV → AV → AV → AV → AV → AV → Hp → Option β} {v2 v8 v15 v17 : AV} {h : Hp} {q r y1 y0 c : Nat}
    (hq : q < 17179869184) (hr : r < 4294967296) (hy1 : y1 < 4294967296) (hy0 : y0 < 4294967296) (hc : c < 4294967296) (h0 : 4294967296 ≤ q ∨ 4294967296 * r + c < q * y0 → 0 < q) :
    f_bits_Div64_b6 P T D N xn x2 v2 v8 (U y1) (U y0) (U c) v15 (U r) v17 (U q) h = if 4294967296 ≤ q ∨ 4294967296 * r + c < q * y0 then (if 4294967296 ≤ r + y1 then x2 v2 v8 (U c) v15 v17 (U (q - 1)) h else xn v2 v8 (U y1) (U y0) (U c) v15 (U (r + y1)) v17 (U (q - 1)) h)
      else x2 v2 v8 (U c) v15 v17 (U q) h := by
  have m1 : ∀ kk : AV → Option β, arithK .mul (.s (.int .u64 4294967296)) (U r) kk = kk (U (4294967296 * r)) := fun kk => u_mul 4294967296 r (by omega) kk
  have a1 : ∀ kk : AV → Option β, arithK .add (U (4294967296 * r)) (U c) kk = kk (U (4294967296 * r + c)) := fun kk => u_add _ _ (by omega) kk
  have a2 : ∀ kk : AV → Option β, arithK .add (U r) (U y1) kk = kk (U (r + y1)) := fun kk => u_add _ _ (by omega) kk
  have g1 : ∀ (a b : Nat) (kk : AV → Option β), arithK .geq (U a) (.s (.int .u64 (b : Int))) kk = kk (.s (.bool (decide (b ≤ a)))) := fun a b kk => by rw [arithK_geq, dec_u]
  have g2 : ∀ (a : Nat) (kk : AV → Option β), arithK .geq (U a) (.s (.int .u64 4294967296)) kk = kk (.s (.bool (decide (4294967296 ≤ a)))) := fun a kk => g1 a 4294967296 kk
  have tail : 0 < q → (arithK .sub (U q) (.s (.int .u64 1)) fun x54 => arithK .add (U r) (U y1) fun x55 => arithK .geq x55 (.s (.int .u64 4294967296)) fun x56 => condK x56 (x2 v2 v8 (U c) v15 v17 x54 h) (xn v2 v8 (U y1) (U y0) (U c) v15 x55 v17 x54 h)) =
      if 4294967296 ≤ r + y1 then x2 v2 v8 (U c) v15 v17 (U (q - 1)) h else xn v2 v8 (U y1) (U y0) (U c) v15 (U (r + y1)) v17 (U (q - 1)) h := by
    intro h0
    have s1 : ∀ kk : AV → Option β, arithK .sub (U q) (.s (.int .u64 1)) kk = kk (U (q - 1)) := fun kk => u_sub q 1 h0 (by omega) kk
    rw [s1, a2, g2, condK_bool]
    simp
  unfold f_bits_Div64_b6
  rw [g2]
  by_cases hb : 4294967296 ≤ q
  · rw [decide_eq_true hb, grpK_ft, condK_bool, if_pos rfl, if_pos (.inl hb), tail (by omega)]
  · have hp : q * y0 < 18446744073709551616 := by
      have : q * y0 ≤ 4294967295 * 4294967295 := Nat.mul_le_mul (by omega) (by omega)
      omega
    have m2 : ∀ kk : AV → Option β, arithK .mul (U q) (U y0) kk = kk (U (q * y0)) := fun kk => u_mul _ _ hp kk
    rw [decide_eq_false hb, grpK_ff, m2, m1, a1, arithK_gtr, dec_ul]
    dsimp only
    rw [condK_bool]
    by_cases hl : 4294967296 * r + c < q * y0
    · rw [decide_eq_true hl, if_pos rfl, if_pos (.inr hl), tail (h0 (.inr hl))]
    · rw [decide_eq_false hl, if_neg (by simp), if_neg (by omega)]
/-- What a step of the loops is to a step of the division. -/
theorem digit_step {y1 y0 c x q r : Nat} (hy1 : y1 < 4294967296) (hy1' : 2147483648 ≤ y1) (hy0 : y0 < 4294967296) (hc : c < 4294967296) (hx : x < y1 * 4294967296 + y0) (hxe : x = q * y1 + r) (hQ : (x * 4294967296 + c) / (y1 * 4294967296 + y0) ≤ q) :
    (¬ (4294967296 ≤ q ∨ 4294967296 * r + c < q * y0) → q = (x * 4294967296 + c) / (y1 * 4294967296 + y0)) ∧
    ((4294967296 ≤ q ∨ 4294967296 * r + c < q * y0) → 0 < q ∧ x = (q - 1) * y1 + (r + y1) ∧ (x * 4294967296 + c) / (y1 * 4294967296 + y0) ≤ q - 1 ∧ (4294967296 ≤ r + y1 → q - 1 = (x * 4294967296 + c) / (y1 * 4294967296 + y0))) := by
  have hy : 0 < y1 * 4294967296 + y0 := by omega
  refine ⟨fun hcond => Div.digit_eq (b := 4294967296) hy hxe hQ (by omega), fun hcond => ?_⟩
  have hgt := Div.digit_gt (b := 4294967296) hy hx hc hxe hcond
  have hpos : 0 < q := Nat.lt_of_le_of_lt (Nat.zero_le _) hgt
  have hle1 := Nat.le_sub_one_of_lt hgt
  have hxe' : x = (q - 1) * y1 + (r + y1) := by
    have : q * y1 = (q - 1) * y1 + y1 := by
      conv => lhs; rw [show q = (q - 1) + 1 by omega, Nat.add_mul]
      omega
    omega
  exact ⟨hpos, hxe', hle1, fun hb => Div.digit_big (b := 4294967296) (by omega) hy0 (by omega) hx hxe' hb hle1⟩
theorem L8_val {x0 : AV → AV → AV → AV → AV → AV → AV → AV → Hp → Option β} {v2 v8 v11 v14 : AV} {h : Hp} {y1 y0 c x : Nat} (hy1 : y1 < 4294967296) (hy1' : 2147483648 ≤ y1) (hy0 : y0 < 4294967296) (hc : c < 4294967296) (hx : x < y1 * 4294967296 + y0) :
    ∀ (m q r : Nat), q < 17179869184 → r < 4294967296 → 4294967296 ≤ r + m * 2147483648 → x = q * y1 + r → (x * 4294967296 + c) / (y1 * 4294967296 + y0) ≤ q →
      f_bits_Div64_L8 P T D N x0 (m + 1) v2 v8 (U y1) (U y0) v11 (U c) v14 (U q) (U r) h = x0 v2 v8 (U y1) (U y0) v11 (U c) v14 (U ((x * 4294967296 + c) / (y1 * 4294967296 + y0))) h := by
  intro m
  induction m with
  | zero => intro q r _ hr hm; omega
  | succ m ih =>
    intro q r hq hr hm hxe hQ
    obtain ⟨d1, d2⟩ := digit_step hy1 hy1' hy0 hc hx hxe hQ
    show f_bits_Div64_b8 P T D N (f_bits_Div64_L8 P T D N x0 (m + 1)) x0 v2 v8 (U y1) (U y0) v11 (U c) v14 (U q) (U r) h = _
    rw [b8_step hq hr hy1 hy0 hc (fun hc => (d2 hc).1)]
    split
    · rename_i hcond
      obtain ⟨e1, e2, e3, e4⟩ := d2 hcond
      split
      · rename_i hb
        rw [e4 hb]
      · exact ih (q - 1) (r + y1) (by omega) (by omega) (by omega) e2 e3
    · rename_i hcond
      rw [← d1 hcond]
theorem L6_val {x2 : AV → AV → AV → AV → AV → AV → Hp → Option β} {v2 v8 v15 v17 : AV} {h : Hp} {y1 y0 c x : Nat} (hy1 : y1 < 4294967296) (hy1' : 2147483648 ≤ y1) (hy0 : y0 < 4294967296) (hc : c < 4294967296) (hx : x < y1 * 4294967296 + y0) :
    ∀ (m q r : Nat), q < 17179869184 → r < 4294967296 → 4294967296 ≤ r + m * 2147483648 → x = q * y1 + r → (x * 4294967296 + c) / (y1 * 4294967296 + y0) ≤ q →
      f_bits_Div64_L6 P T D N x2 (m + 1) v2 v8 (U y1) (U y0) (U c) v15 (U r) v17 (U q) h = x2 v2 v8 (U c) v15 v17 (U ((x * 4294967296 + c) / (y1 * 4294967296 + y0))) h := by
  intro m
  induction m with
  | zero => intro q r _ hr hm; omega
  | succ m ih =>
    intro q r hq hr hm hxe hQ
    obtain ⟨d1, d2⟩ := digit_step hy1 hy1' hy0 hc hx hxe hQ
    show f_bits_Div64_b6 P T D N (f_bits_Div64_L6 P T D N x2 (m + 1)) x2 v2 v8 (U y1) (U y0) (U c) v15 (U r) v17 (U q) h = _
    rw [b6_step hq hr hy1 hy0 hc (fun hc => (d2 hc).1)]
    split
    · rename_i hcond
      obtain ⟨e1, e2, e3, e4⟩ := d2 hcond
      split
      · rename_i hb
        rw [e4 hb]
      · exact ih (q - 1) (r + y1) (by omega) (by omega) (by omega) e2 e3
    · rename_i hcond
      rw [← d1 hcond]
/-! ### The length of a number -/
def tab8 : List UInt8 := ([0, 1] ++ List.replicate 2 2 ++ List.replicate 4 3 ++ List.replicate 8 4 ++ List.replicate 16 5 ++ List.replicate 32 6 ++ List.replicate 64 7 ++ List.replicate 128 8)
theorem tab8_get : ∀ y : Fin 256, 0 < y.val → ∃ l : Fin 9, (ByteArray.mk tab8.toArray)[y.val]? = some (UInt8.ofNat l.val) ∧ 2 ^ (l.val - 1) ≤ y.val ∧ y.val < 2 ^ l.val ∧ 0 < l.val := by decide +kernel
variable {K : AV → Hp → Option β}
theorem len_j3 {h : Hp} {y z : Nat} (hy : 0 < y) (hy' : y < 256) (hz' : z ≤ 56) :
    ∃ l : Nat, f_bits_Len64_j3 Try.prog T D N K (U y) (I z) h = K (I ((z + l : Nat) : Int)) h ∧ 2 ^ (l - 1) ≤ y ∧ y < 2 ^ l ∧ 0 < l ∧ l ≤ 8 := by
  obtain ⟨l, h1, h3, h4, h5⟩ := tab8_get ⟨y, hy'⟩ hy
  refine ⟨l.val, ?_, h3, h4, h5, by omega⟩
  unfold f_bits_Len64_j3
  simp only [U]
  rw [convK_int un_77 un_5]
  have hw : IntKind.u8.wrap (y : Int) = (y : Int) := by rw [IntKind.wrap_u8]; omega
  rw [hw]
  have hch : ∀ (k : AV → Option β), chK (.s (.string (ByteArray.mk tab8.toArray))) (.s (.int .u8 (y : Int))) k = k (.s (.int .u8 (l.val : Int))) := by
    intro k
    have h6 : (UInt8.ofNat l.val).toNat = l.val := by
      have := l.isLt
      simp
      omega
    simp only [chK, Int.toNat_natCast, h1, h6]
    rw [if_pos (by omega)]
  refine (hch _).trans ?_
  have hl := l.isLt
  rw [convK_int un_5 un_3, wrap64 (by omega) (by omega), arithK_add, wrap64 (by omega) (by omega)]
  congr 2
theorem up8 (y l s : Nat) (h0 : 0 < y / 2 ^ s) (h1 : 2 ^ (l - 1) ≤ y / 2 ^ s) (h2 : y / 2 ^ s < 2 ^ l) (h3 : 0 < l) : 2 ^ (s + l - 1) ≤ y ∧ y < 2 ^ (s + l) := by
  have hp : 0 < 2 ^ s := Nat.two_pow_pos s
  constructor
  · rw [show s + l - 1 = (l - 1) + s by omega, Nat.pow_add]
    exact (Nat.le_div_iff_mul_le hp).1 h1
  · rw [Nat.add_comm, Nat.pow_add]
    exact (Nat.div_lt_iff_lt_mul hp).1 h2
theorem len_j2 {h : Hp} {y z : Nat} (hy : 0 < y) (hy' : y < 65536) (hz : z ≤ 48) :
    ∃ l : Nat, f_bits_Len64_j2 Try.prog T D N K (U y) (I z) h = K (I ((z + l : Nat) : Int)) h ∧ 2 ^ (l - 1) ≤ y ∧ y < 2 ^ l ∧ 0 < l ∧ l ≤ 16 := by
  unfold f_bits_Len64_j2
  rw [arithK_geq, condK_bool]
  by_cases hb : 256 ≤ y
  · have hd : decide ((256 : Int) ≤ ((y : Nat) : Int)) = true := decide_eq_true (by omega)
    have hs : ∀ k : AV → Option β, reckK Try.prog .shr 77 (U y) (.s (.int .u64 8)) k = k (U (y / 2 ^ 8)) := fun k => reck_shr y 8 (by omega) k
    rw [hd, if_pos rfl, hs, arithK_add, wrap64 (by omega) (by omega)]
    obtain ⟨l, g1, g2, g3, g4, g5⟩ := len_j3 (T := T) (D := D) (N := N) (K := K) (h := h) (y := y / 2 ^ 8) (z := z + 8) (by omega) (by omega) (by omega)
    obtain ⟨u1, u2⟩ := up8 y l 8 (by omega) g2 g3 g4
    exact ⟨8 + l, by rw [show z + (8 + l) = z + 8 + l by omega, ← g1]; congr 4, u1, u2, by omega, by omega⟩
  · have hd : decide ((256 : Int) ≤ ((y : Nat) : Int)) = false := decide_eq_false (by omega)
    rw [hd, if_neg (by simp)]
    obtain ⟨l, g1, g2, g3, g4, g5⟩ := len_j3 (T := T) (D := D) (N := N) (K := K) (h := h) (y := y) (z := z) hy (by omega) (by omega)
    exact ⟨l, g1, g2, g3, g4, by omega⟩
theorem len_j1 {h : Hp} {y z : Nat} (hy : 0 < y) (hy' : y < 4294967296) (hz : z ≤ 32) :
    ∃ l : Nat, f_bits_Len64_j1 Try.prog T D N K (U y) (I z) h = K (I ((z + l : Nat) : Int)) h ∧ 2 ^ (l - 1) ≤ y ∧ y < 2 ^ l ∧ 0 < l ∧ l ≤ 32 := by
  unfold f_bits_Len64_j1
  rw [arithK_geq, condK_bool]
  by_cases hb : 65536 ≤ y
  · have hd : decide ((65536 : Int) ≤ ((y : Nat) : Int)) = true := decide_eq_true (by omega)
    have hs : ∀ k : AV → Option β, reckK Try.prog .shr 77 (U y) (.s (.int .u64 16)) k = k (U (y / 2 ^ 16)) := fun k => reck_shr y 16 (by omega) k
    rw [hd, if_pos rfl, hs, arithK_add, wrap64 (by omega) (by omega)]
    obtain ⟨l, g1, g2, g3, g4, g5⟩ := len_j2 (T := T) (D := D) (N := N) (K := K) (h := h) (y := y / 2 ^ 16) (z := z + 16) (by omega) (by omega) (by omega)
    obtain ⟨u1, u2⟩ := up8 y l 16 (by omega) g2 g3 g4
    exact ⟨16 + l, by rw [show z + (16 + l) = z + 16 + l by omega, ← g1]; congr 4, u1, u2, by omega, by omega⟩
  · have hd : decide ((65536 : Int) ≤ ((y : Nat) : Int)) = false := decide_eq_false (by omega)
    rw [hd, if_neg (by simp)]
    obtain ⟨l, g1, g2, g3, g4, g5⟩ := len_j2 (T := T) (D := D) (N := N) (K := K) (h := h) (y := y) (z := z) hy (by omega) (by omega)
    exact ⟨l, g1, g2, g3, g4, by omega⟩
theorem len_run {y : Nat} (hy : 0 < y) (hy' : y < 18446744073709551616) (h : Hp) : ∃ l : Nat, f_bits_Len64 Try.prog T D N K (U y) h = K (I l) h ∧ 2 ^ (l - 1) ≤ y ∧ y < 2 ^ l ∧ 0 < l ∧ l ≤ 64 := by
  unfold f_bits_Len64
  rw [arithK_geq, condK_bool]
  by_cases hb : 4294967296 ≤ y
  · have hd : decide ((4294967296 : Int) ≤ ((y : Nat) : Int)) = true := decide_eq_true (by omega)
    rw [hd, if_pos rfl, reck_shr32]
    obtain ⟨l, g1, g2, g3, g4, g5⟩ := len_j1 (T := T) (D := D) (N := N) (K := K) (h := h) (y := y / 4294967296) (z := 32) (by omega) (by omega) (by omega)
    obtain ⟨u1, u2⟩ := up8 y l 32 (by omega) g2 g3 g4
    exact ⟨32 + l, g1, u1, u2, by omega, by omega⟩
  · have hd : decide ((4294967296 : Int) ≤ ((y : Nat) : Int)) = false := decide_eq_false (by omega)
    rw [hd, if_neg (by simp)]
    obtain ⟨l, g1, g2, g3, g4, g5⟩ := len_j1 (T := T) (D := D) (N := N) (K := K) (h := h) (y := y) (z := 0) hy (by omega) (by omega)
    rw [Nat.zero_add] at g1
    exact ⟨l, g1, g2, g3, g4, by omega⟩
theorem F_bits_LeadingZeros64_val {y : Nat} (hy : 0 < y) (hy' : y < 18446744073709551616) (h : Hp) : ∃ s : Nat, F_bits_LeadingZeros64 [U y] h = some (I s, h) ∧ s ≤ 63 ∧ 9223372036854775808 ≤ y * 2 ^ s ∧ y * 2 ^ s < 18446744073709551616 := by
  obtain ⟨l, g1, g2, g3, g4, g5⟩ := len_run (T := t_bits_Len64) (D := d_bits_Len64) (N := NN) (K := fun v g => cvt false g v) hy hy' []
  have e59 : ∀ h, F_bits_Len64 [U y] h = some (I l, h) := F_bits_Len64_run rfl g1
  refine ⟨64 - l, F_bits_LeadingZeros64_run (v := I ((64 - l : Nat) : Int)) rfl ?_ h, by omega, ?_, ?_⟩
  · simp only [f_bits_LeadingZeros64, t_bits_LeadingZeros64_59, callK_F, e59, arithK_sub]
    rw [wrap64 (by omega) (by omega)]
    show some (I _) = some (I _)
    congr 3
    omega
  · have : 2 ^ (l - 1) * 2 ^ (64 - l) ≤ y * 2 ^ (64 - l) := Nat.mul_le_mul_right _ g2
    rw [← Nat.pow_add, show l - 1 + (64 - l) = 63 by omega] at this
    exact this
  · have : y * 2 ^ (64 - l) < 2 ^ l * 2 ^ (64 - l) := Nat.mul_lt_mul_of_pos_right g3 (Nat.two_pow_pos _)
    rw [← Nat.pow_add, show l + (64 - l) = 64 by omega] at this
    exact this
/-! ### The division -/
theorem div_j4 {h : Hp} {q1 q0 u c0 y s : Nat} (hq1 : q1 < 4294967296) (hq0 : q0 = (u * 4294967296 + c0) / y) (hq0' : q0 < 4294967296)
    (hy : 0 < y) (hy' : y < 18446744073709551616) (hs : s ≤ 64) : f_bits_Div64_j4 Try.prog T D N K (U y) (U s) (U c0) (U q1) (U u) (U q0) h = K (.tup [U (q1 * 4294967296 + q0), U ((u * 4294967296 + c0) % y / 2 ^ s)]) h := by
  have m1 : ∀ k : AV → Option β, arithK .mul (U q1) (.s (.int .u64 4294967296)) k = k (U (q1 * 4294967296)) := fun k => u_mul q1 4294967296 (by omega) k
  have a1 : ∀ k : AV → Option β, arithK .add (U (q1 * 4294967296)) (U q0) k = k (U (q1 * 4294967296 + q0)) := fun k => u_add _ _ (by omega) k
  have m2 : ∀ k : AV → Option β, arithK .mul (U u) (.s (.int .u64 4294967296)) k = k (U (u * 4294967296 % 18446744073709551616)) := fun k => u_mulM u 4294967296 k
  have hd := Nat.div_add_mod (u * 4294967296 + c0) y
  rw [← hq0] at hd
  have hr := Nat.mod_lt (u * 4294967296 + c0) hy
  generalize hX : (u * 4294967296 + c0) % y = R at hd hr ⊢
  have a2 : ∀ k : AV → Option β, arithK .add (U (u * 4294967296 % 18446744073709551616)) (U c0) k = k (U ((u * 4294967296 + c0) % 18446744073709551616)) := fun k => u_addM _ _ _ (by omega) (by omega) k
  have m3 : ∀ k : AV → Option β, arithK .mul (U q0) (U y) k = k (U (q0 * y % 18446744073709551616)) := fun k => u_mulM q0 y k
  rw [Nat.mul_comm y q0] at hd
  have s1 : ∀ k : AV → Option β, arithK .sub (U ((u * 4294967296 + c0) % 18446744073709551616)) (U (q0 * y % 18446744073709551616)) k = k (U R) := fun k => u_subM _ _ _ (by omega) (by omega) k
  unfold f_bits_Div64_j4
  rw [m1, a1, m2, a2, m3, s1, reck_shr _ _ hs]
theorem div_j3 {h : Hp} {q1 x y1 y0 c1 c0 y s : Nat} (hN : ∃ m, N = m + 3) (hye : y = y1 * 4294967296 + y0) (hy1 : y1 < 4294967296) (hy1' : 2147483648 ≤ y1) (hy0 : y0 < 4294967296) (hc1 : c1 < 4294967296) (hc0 : c0 < 4294967296) (hx : x < y) (hq : q1 = (x * 4294967296 + c1) / y) (hs : s ≤ 64) :
    f_bits_Div64_j3 Try.prog T D N K (U y) (U s) (U y1) (U y0) (U x) (U c1) (U c0) (U q1) h = K (.tup [U ((x * (4294967296 * 4294967296) + c1 * 4294967296 + c0) / y), U ((x * (4294967296 * 4294967296) + c1 * 4294967296 + c0) % y / 2 ^ s)]) h := by
  have hyp : 0 < y := by omega
  have hyl : y < 18446744073709551616 := by omega
  have hq1 : q1 < 4294967296 := by rw [hq]; exact Div.lt_base hc1 hx
  have m2 : ∀ k : AV → Option β, arithK .mul (U x) (.s (.int .u64 4294967296)) k = k (U (x * 4294967296 % 18446744073709551616)) := fun k => u_mulM x 4294967296 k
  have hd := Nat.div_add_mod (x * 4294967296 + c1) y
  rw [← hq] at hd
  have hr := Nat.mod_lt (x * 4294967296 + c1) hyp
  have two := Div.two_digits (b := 4294967296) (c1 := c1) (c0 := c0) (by omega) hc1 hc0 hyp hx
  rw [← hq] at two
  obtain ⟨w, hX⟩ : ∃ w, w = (x * 4294967296 + c1) % y := ⟨_, rfl⟩
  rw [← hX] at hd hr two
  have a2 : ∀ k : AV → Option β, arithK .add (U (x * 4294967296 % 18446744073709551616)) (U c1) k = k (U ((x * 4294967296 + c1) % 18446744073709551616)) := fun k => u_addM _ _ _ (by omega) (by omega) k
  have m3 : ∀ k : AV → Option β, arithK .mul (U q1) (U y) k = k (U (q1 * y % 18446744073709551616)) := fun k => u_mulM q1 y k
  rw [Nat.mul_comm y q1] at hd
  have s1 : ∀ k : AV → Option β, arithK .sub (U ((x * 4294967296 + c1) % 18446744073709551616)) (U (q1 * y % 18446744073709551616)) k = k (U w) := fun k => u_subM _ _ _ (by omega) (by omega) k
  have hdm := Nat.div_add_mod w y1
  have hrm := Nat.mod_lt w (show 0 < y1 by omega)
  have hqle : w / y1 < 17179869184 := by
    rw [Nat.div_lt_iff_lt_mul (by omega)]
    omega
  have hsl : (w * 4294967296 + c0) / (y1 * 4294967296 + y0) ≤ w / y1 := Div.start_le (by omega) (by omega) hc0
  generalize hQ : w / y1 = q0 at hdm hqle hsl
  generalize hR : w % y1 = r at hdm hrm
  rw [Nat.mul_comm y1 q0] at hdm
  have m4 : ∀ k : AV → Option β, arithK .mul (U q0) (U y1) k = k (U (q0 * y1)) := fun k => u_mul _ _ (by omega) k
  have s2 : ∀ k : AV → Option β, arithK .sub (U w) (U (q0 * y1)) k = k (U r) := fun k => by
    rw [u_sub _ _ (by omega) (by omega)]; congr 3; omega
  unfold f_bits_Div64_j3
  rw [m2, a2, m3, s1, reck_quo _ _ (by omega) (by omega), hQ, m4, s2]
  obtain ⟨m, rfl⟩ := hN
  rw [L6_val (x := w) hy1 hy1' hy0 hc0 (by omega) (m + 2) q0 r hqle (by omega) (by omega) (by omega) hsl]
  have hq0b : (w * 4294967296 + c0) / y < 4294967296 := Div.lt_base hc0 hr
  rw [← hye]
  have g := div_j4 (T := T) (D := D) (N := m + 3) (K := K) (h := h) (q1 := q1) (q0 := (w * 4294967296 + c0) / y) (u := w) (c0 := c0) (y := y) (s := s) hq1 rfl hq0b hyp hyl hs
  rw [← two.1, ← two.2]
  exact g
theorem eqK_u (a b : Nat) (h : Hp) (ty : TypeId) (k : Go.AM.K β) : eqK P false ty (U a) (U b) h k = k (.s (.bool (decide (a = b)))) := by
  rw [eqK_int]
  congr 3
  simp
  by_cases hab : a = b
  · subst hab; simp
  · have : ¬ ((a : Int) = (b : Int)) := by omega
    simp [hab, this]
theorem lo_split (lo s : Nat) (hs : s ≤ 64) (hlo : lo < 18446744073709551616) : lo / 2 ^ (64 - s) < 2 ^ s ∧ lo * 2 ^ s = lo / 2 ^ (64 - s) * 18446744073709551616 + lo * 2 ^ s % 18446744073709551616 := by
  have e64 : (18446744073709551616 : Nat) = 2 ^ (64 - s) * 2 ^ s := by rw [← Nat.pow_add, show 64 - s + s = 64 by omega]
  constructor
  · rw [Nat.div_lt_iff_lt_mul (Nat.two_pow_pos _), Nat.mul_comm, ← e64]; exact hlo
  · have h1 : lo * 2 ^ s / 18446744073709551616 = lo / 2 ^ (64 - s) := by
      rw [e64, Nat.mul_div_mul_right _ _ (Nat.two_pow_pos s)]
    have h2 := Nat.div_add_mod (lo * 2 ^ s) 18446744073709551616
    rw [h1, Nat.mul_comm] at h2
    exact h2.symm
theorem div_j2 {h : Hp} {hi lo y : Nat} (hT : T 55 = some F_bits_LeadingZeros64) (hN : ∃ m, N = m + 3) (hhi : hi < y) (hlo : lo < 18446744073709551616) (hy : y < 18446744073709551616) :
    f_bits_Div64_j2 Try.prog T D N K (U hi) (U lo) (U y) h = K (.tup [U ((hi * 18446744073709551616 + lo) / y), U ((hi * 18446744073709551616 + lo) % y)]) h := by
  unfold f_bits_Div64_j2
  have e0 : ∀ k : AV → Option β, eqK Try.prog false 77 (U hi) (.s (.int .u64 0)) h k = k (.s (.bool (decide (hi = 0)))) := fun k => eqK_u hi 0 h _ k
  rw [e0, condK_bool]
  by_cases hz : hi = 0
  · subst hz
    rw [decide_eq_true rfl, if_pos rfl, reck_quo _ _ (by omega) hlo, reck_rem _ _ (by omega)]
    simp
  · rw [decide_eq_false hz, if_neg (by simp)]
    obtain ⟨s, g1, g2, g3, g4⟩ := F_bits_LeadingZeros64_val (y := y) (by omega) hy h
    rw [callK_some hT g1]
    simp only [I]
    rw [cv_3_88]
    have hw : IntKind.u64.wrap (s : Int) = (s : Int) := wrapU (by omega) (by omega)
    rw [hw]
    obtain ⟨Y, hY⟩ : ∃ Y, Y = y * 2 ^ s := ⟨_, rfl⟩
    rw [← hY] at g3 g4
    have ySh : ∀ k : AV → Option β, reckK Try.prog .shl 77 (U y) (U s) k = k (U Y) := fun k => by
      rw [reck_shl _ _ (by omega), ← hY, Nat.mod_eq_of_lt g4]
    rw [ySh, reck_shr32, reck_mask _ g4]
    have hp : 0 < 2 ^ s := Nat.two_pow_pos s
    obtain ⟨hl1, hl2⟩ := lo_split lo s (by omega) hlo
    obtain ⟨H, hH⟩ : ∃ H, H = hi * 2 ^ s := ⟨_, rfl⟩
    obtain ⟨L, hL⟩ : ∃ L, L = lo / 2 ^ (64 - s) := ⟨_, rfl⟩
    obtain ⟨M, hM⟩ : ∃ M, M = lo * 2 ^ s % 18446744073709551616 := ⟨_, rfl⟩
    rw [← hL] at hl1
    rw [← hL, ← hM] at hl2
    have hMl : M < 18446744073709551616 := by rw [hM]; exact Nat.mod_lt _ (by decide)
    -- the shifted number, and its digits
    have hbig : (H + L) * 18446744073709551616 + M = (hi * 18446744073709551616 + lo) * 2 ^ s := by
      rw [Nat.add_mul, Nat.add_mul, hl2, hH, Nat.mul_right_comm]
      omega
    have hlt : (hi * 18446744073709551616 + lo) * 2 ^ s < y * 18446744073709551616 * 2 ^ s := Nat.mul_lt_mul_of_pos_right (by omega) hp
    have hx : H + L < Y := by
      rw [← hbig, Nat.mul_right_comm, ← hY] at hlt
      omega
    have hHl : H < 18446744073709551616 := by omega
    have hSh : ∀ k : AV → Option β, reckK Try.prog .shl 77 (U hi) (U s) k = k (U H) := fun k => by
      rw [reck_shl _ _ (by omega), ← hH, Nat.mod_eq_of_lt hHl]
    have s64 : ∀ k : AV → Option β, arithK .sub (.s (.int .u64 64)) (U s) k = k (U (64 - s)) := fun k => u_sub 64 s (by omega) (by omega) k
    have hor : H ||| L = H + L := by
      rw [hH, Nat.mul_comm]
      exact (Nat.two_pow_add_eq_or_of_lt hl1 hi).symm
    have lSh : ∀ k : AV → Option β, reckK Try.prog .shl 77 (U lo) (U s) k = k (U M) := fun k => by rw [reck_shl _ _ (by omega), ← hM]
    rw [hSh, s64, reck_shr _ _ (by omega), ← hL, reck_or _ _ hHl (by omega), hor, lSh, reck_shr32, reck_mask _ hMl]
    obtain ⟨x, hxe⟩ : ∃ x, x = H + L := ⟨_, rfl⟩
    rw [← hxe] at hx hbig ⊢
    obtain ⟨y1, hy1⟩ : ∃ y1, y1 = Y / 4294967296 := ⟨_, rfl⟩
    obtain ⟨y0, hy0⟩ : ∃ y0, y0 = Y % 4294967296 := ⟨_, rfl⟩
    obtain ⟨c1, hc1⟩ : ∃ c1, c1 = M / 4294967296 := ⟨_, rfl⟩
    obtain ⟨c0, hc0⟩ : ∃ c0, c0 = M % 4294967296 := ⟨_, rfl⟩
    rw [← hy1, ← hy0, ← hc1, ← hc0]
    have hye : Y = y1 * 4294967296 + y0 := by omega
    have b1 : y1 < 4294967296 := by omega
    have b2 : 2147483648 ≤ y1 := by omega
    have b3 : y0 < 4294967296 := by omega
    have b4 : c1 < 4294967296 := by omega
    have b5 : c0 < 4294967296 := by omega
    have hdm := Nat.div_add_mod x y1
    have hrm := Nat.mod_lt x (show 0 < y1 by omega)
    have hqle : x / y1 < 17179869184 := by
      rw [Nat.div_lt_iff_lt_mul (by omega)]
      omega
    have hsl : (x * 4294967296 + c1) / (y1 * 4294967296 + y0) ≤ x / y1 := Div.start_le (by omega) (by omega) b4
    obtain ⟨q, hq⟩ : ∃ q, q = x / y1 := ⟨_, rfl⟩
    obtain ⟨r, hr⟩ : ∃ r, r = x % y1 := ⟨_, rfl⟩
    rw [← hq] at hdm hqle hsl
    rw [← hr] at hdm hrm
    rw [Nat.mul_comm y1 q] at hdm
    have m4 : ∀ k : AV → Option β, arithK .mul (U q) (U y1) k = k (U (q * y1)) := fun k => u_mul _ _ (by omega) k
    have s2 : ∀ k : AV → Option β, arithK .sub (U x) (U (q * y1)) k = k (U r) := fun k => by
      rw [u_sub _ _ (by omega) (by omega)]; congr 3; omega
    rw [reck_quo _ _ (by omega) (by omega), ← hq, m4, s2]
    obtain ⟨m, rfl⟩ := hN
    rw [L8_val (x := x) b1 b2 b3 b4 (by omega) (m + 2) q r hqle (by omega) (by omega) (by omega) hsl]
    rw [← hye]
    have g := div_j3 (T := T) (D := D) (N := m + 3) (K := K) (h := h) (q1 := (x * 4294967296 + c1) / Y) (x := x) (y1 := y1) (y0 := y0) (c1 := c1) (c0 := c0) (y := Y) (s := s) ⟨m, rfl⟩
      hye b1 b2 b3 b4 b5 hx rfl (by omega)
    have hdig : x * (4294967296 * 4294967296) + c1 * 4294967296 + c0 = (hi * 18446744073709551616 + lo) * 2 ^ s := by
      have hM2 : M = c1 * 4294967296 + c0 := by omega
      refine Eq.trans ?_ hbig
      rw [hM2, show (4294967296 * 4294967296 : Nat) = 18446744073709551616 from by decide, Nat.add_assoc]
    rw [hdig, hY, (Div.scaled hp).1, (Div.scaled hp).2, Nat.mul_div_cancel _ hp] at g
    rw [← hY] at g
    exact g
theorem NN_3 : ∃ m, NN = m + 3 := ⟨NN - 3, (Nat.sub_add_cancel (show 3 ≤ NN by have := NN_ge; omega)).symm⟩
theorem F_bits_Div64_val {hi lo y : Nat} (hhi : hi < y) (hlo : lo < 18446744073709551616) (hy : y < 18446744073709551616) (h : Hp) :
    F_bits_Div64 [U hi, U lo, U y] h = some (.tup [U ((hi * 18446744073709551616 + lo) / y), U ((hi * 18446744073709551616 + lo) % y)], h) := by
  refine F_bits_Div64_run (v := .tup [U ((hi * 18446744073709551616 + lo) / y), U ((hi * 18446744073709551616 + lo) % y)]) rfl ?_ h
  unfold f_bits_Div64
  have e0 : ∀ k : AV → Option AV, eqK Try.prog false 77 (U y) (.s (.int .u64 0)) [] k = k (.s (.bool (decide (y = 0)))) := fun k => eqK_u y 0 [] _ k
  rw [e0, condK_bool, decide_eq_false (by omega), if_neg (by simp)]
  unfold f_bits_Div64_j1
  have e1 : ∀ k : AV → Option AV, arithK .leq (U y) (U hi) k = k (.s (.bool false)) := fun k => by
    rw [arithK_leq, decide_eq_false (by omega)]
  rw [e1, condK_bool, if_neg (by simp)]
  exact div_j2 t_bits_Div64_55 NN_3 hhi hlo hy
theorem F_bits_Mul64_val {x y : Nat} (hx : x < 18446744073709551616) (hy : y < 18446744073709551616) (h : Hp) : F_bits_Mul64 [U x, U y] h = some (.tup [U (x * y / 18446744073709551616), U (x * y % 18446744073709551616)], h) := by
  refine F_bits_Mul64_run (v := .tup [U (x * y / 18446744073709551616), U (x * y % 18446744073709551616)]) rfl ?_ h
  obtain ⟨b1, b2, b3, b4⟩ := Lib.mul64_hi x y hx hy
  have ba := Lib.half_mul_le (a := x / 4294967296) (b := y / 4294967296) (by omega) (by omega)
  have bb := Lib.half_mul_le (a := x / 4294967296) (b := y % 4294967296) (by omega) (by omega)
  have bc := Lib.half_mul_le (a := x % 4294967296) (b := y / 4294967296) (by omega) (by omega)
  unfold f_bits_Mul64
  rw [reck_mask _ hx, reck_shr32, reck_mask _ hy, reck_shr32, u_mul _ _ b1, u_mul _ _ (by omega), reck_shr32, u_add _ _ b2, reck_mask _ b2, reck_shr32, u_mul _ _ (by omega), u_add _ _ b3, u_mul _ _ (by omega), u_add _ _ (by omega), reck_shr32, u_add _ _ (by omega), u_mulM]
  show some (AV.tup _) = _
  rw [b4]
end
end Go.AM
