import Derived.Test.YtlnjnfbdcdmacaaBits
/- Proportions: the product of two amounts, divided by a third one. -/
namespace Go.AM
open Go.Proofs
set_option linter.unusedVariables false
set_option linter.unusedSimpArgs false
set_option linter.constructorNameAsVariable false
set_option maxRecDepth 20000
section
variable {β : Type} {P : Program} {T : Tab} {D : DTab} {N : Nat} {K : AV → Hp → Option β}
abbrev encI (n : Int) : List AV := [I n]
theorem IndexFunc_int_L2 {x0 : Hp → Option β} {xr : AV → Hp → Option β} {l : List Int} {b : Bool} {fv : AV} {h : Hp} {p : Int → Bool} (hl : l.length < 4611686018427387904) (hp : ∀ x ∈ l, ∀ k : AV → Hp → Option β, callVK T fv [I x] h k = k (B (p x)) h) :
    ∀ (n i : Nat), i ≤ l.length → l.length < i + n → f_slices_IndexFunc_int_L2 P T D N x0 xr n (.lst 1 b (l.map encI)) fv (I l.length) (I i) h = match (l.drop i).findIdx? p with | some j => xr (I ((i + j : Nat) : Int)) h | none => x0 h := by
  intro n
  induction n with
  | zero => intro i h1 h2; omega
  | succ n ih =>
    intro i h1 h2
    show f_slices_IndexFunc_int_b2 P T D N (f_slices_IndexFunc_int_L2 P T D N x0 xr n) x0 xr _ _ _ _ h = _
    unfold f_slices_IndexFunc_int_b2
    rcases Nat.lt_or_ge i l.length with hi | hi
    · have hx : l[i]? = some l[i] := List.getElem?_eq_getElem hi
      have hlt : ((i : Int) < (l.length : Int)) := by omega
      have hw : IntKind.i64.wrap ((i : Int) + 1) = ((i + 1 : Nat) : Int) := by rw [wrap64 (by omega) (by omega)]; omega
      have hpx := hp l[i] (List.getElem_mem hi)
      rw [List.drop_eq_getElem_cons hi, List.findIdx?_cons]
      simp [hlt, hx, hw, encI] at hpx ⊢
      rw [hpx]
      cases hc : p l[i] with
      | true => simp
      | false =>
        have h3 := ih (i + 1) hi (by omega)
        rw [show ((i : Int) + 1) = ((i + 1 : Nat) : Int) by omega]
        simp only [Bool.false_eq_true, if_false]
        refine h3.trans ?_
        cases (List.drop (i + 1) l).findIdx? p with
        | none => rfl
        | some j =>
          show xr (I ((i + 1 + j : Nat) : Int)) h = xr (I ((i + (j + 1) : Nat) : Int)) h
          rw [show i + 1 + j = i + (j + 1) by omega]
    · have : i = l.length := by omega
      subst this
      simp
theorem IndexFunc_int_K {l : List Int} {b : Bool} {fv : AV} {h : Hp} {p : Int → Bool} {K : AV → Hp → Option β} (hl : l.length < N) (hN : N < 4611686018427387904) (hp : ∀ x ∈ l, ∀ k : AV → Hp → Option β, callVK T fv [I x] h k = k (B (p x)) h) :
    f_slices_IndexFunc_int P T D N K (.lst 1 b (l.map encI)) fv h = K (I (match l.findIdx? p with | some j => (j : Int) | none => -1)) h := by
  unfold f_slices_IndexFunc_int
  simp only [lenK_lst, List.length_map]
  have := IndexFunc_int_L2 (P := P) (D := D) (N := N) (b := b) (x0 := fun h => f_slices_IndexFunc_int_j1 P T D N K h) (xr := fun a h => K a h) (by omega) hp N 0 (Nat.zero_le _) (by omega)
  simp only [List.drop_zero] at this
  refine this.trans ?_
  cases l.findIdx? p with
  | none => rfl
  | some j => simp
def amt (n : Int) : Bool := decide (0 ≤ n) && decide (n ≤ 128849018880000)
theorem F_proportion_amount_val (a : Int) (h : Hp) : F_proportion_amount [I a] h = some (B (amt a), h) := F_proportion_amount_run rfl (by simp [f_proportion_amount, amt]) h
theorem F_proportion_amounts_1_val (a : Int) (h : Hp) : F_proportion_amounts_1 [I a] h = some (B (!amt a), h) := F_proportion_amounts_1_run rfl (by simp [f_proportion_amounts_1, F_proportion_amount_val]) h
theorem F_ContainsFunc_amounts (l : List Int) (hl : l.length < 1000) (b : Bool) (h : Hp) : F_slices_ContainsFunc_int__proportion_amounts_1 [.lst 1 b (l.map encI), .fn 42 []] h = some (B (l.any fun n => !amt n), h) := by
  have e : ∀ h, F_slices_IndexFunc_int__proportion_amounts_1 [.lst 1 b (l.map encI), .fn 42 []] h = some (I (match l.findIdx? (fun n => !amt n) with | some j => (j : Int) | none => -1), h) :=
    F_slices_IndexFunc_int__proportion_amounts_1_run rfl (by
      simp only [nrm, nrmC]
      rw [IndexFunc_int_K (p := fun n => !amt n) (by have := NN_ge; omega) NN_lt (fun x _ k => by simp [F_proportion_amounts_1_val])]
      rfl)
  refine F_slices_ContainsFunc_int__proportion_amounts_1_run rfl ?_ h
  simp only [nrm, nrmC, f_slices_ContainsFunc_int, t_slices_ContainsFunc_int__proportion_amounts_1_53, callK_F, e]
  have : (l.any fun n => !amt n) = (l.findIdx? (fun n => !amt n)).isSome := by rw [List.findIdx?_isSome]
  rw [this]
  cases l.findIdx? (fun n => !amt n) <;> simp
theorem F_proportion_amounts_val (l : List Int) (hl : l.length < 1000) (b : Bool) (h : Hp) : F_proportion_amounts [.lst 1 b (l.map encI)] h = some (B (l.all amt), h) := by
  refine F_proportion_amounts_run rfl ?_ h
  simp [f_proportion_amounts, F_ContainsFunc_amounts l hl, List.all_eq_not_any_not]
theorem F_proportion_product_val {a b : Nat} (ha : a < 9223372036854775808) (hb : b < 9223372036854775808) (h : Hp) : F_proportion_product [I a, I b] h = some (.agg [U (a * b / 18446744073709551616), U (a * b % 18446744073709551616)], h) := by
  have e54 : ∀ hh, F_bits_Mul64 [U a, U b] hh = some (.tup [U (a * b / 18446744073709551616), U (a * b % 18446744073709551616)], hh) := fun hh => F_bits_Mul64_val (by omega) (by omega) hh
  generalize a * b / 18446744073709551616 = p at *
  generalize a * b % 18446744073709551616 = q at *
  refine F_proportion_product_run rfl ?_ h
  simp [f_proportion_product, wrapU (show (0 : Int) ≤ (a : Int) by omega) (by omega), wrapU (show (0 : Int) ≤ (b : Int) by omega) (by omega), e54, buildK, fillA]
theorem F_proportion_divided_val {a b c : Nat} (ha : a < 9223372036854775808) (hb : b < 9223372036854775808) (hc : c < 9223372036854775808) (hc0 : 0 < c) (h : Hp) :
    F_proportion_divided [I a, I b, I c] h = some (if a * b / c ≤ 128849018880000 then .tup [I ((a * b / c : Nat) : Int), I ((a * b % c : Nat) : Int), B true] else .tup [I 0, I 0, B false], h) := by
  obtain ⟨p, hp⟩ : ∃ p, p = a * b / 18446744073709551616 := ⟨_, rfl⟩
  obtain ⟨q, hq⟩ : ∃ q, q = a * b % 18446744073709551616 := ⟨_, rfl⟩
  have e44 := fun hh => F_proportion_product_val ha hb hh
  rw [← hp, ← hq] at e44
  have hql : q < 18446744073709551616 := by omega
  have hab : p * 18446744073709551616 + q = a * b := by omega
  have wc : IntKind.u64.wrap (c : Int) = (c : Int) := wrapU (by omega) (by omega)
  refine F_proportion_divided_run rfl ?_ h
  by_cases hpc : c ≤ p
  · have hbig : ¬ a * b / c ≤ 128849018880000 := by
      have h1 : 18446744073709551616 ≤ a * b / c := by
        rw [Nat.le_div_iff_mul_le hc0]
        have : 18446744073709551616 * c ≤ p * 18446744073709551616 := by rw [Nat.mul_comm]; exact Nat.mul_le_mul_right _ hpc
        omega
      omega
    have hpc' : (c : Int) ≤ (p : Int) := by omega
    rw [if_neg hbig]
    simp [f_proportion_divided, e44, iaA, wc, hpc, hpc']
  · have e45 := fun hh => F_bits_Div64_val (hi := p) (lo := q) (y := c) (by omega) hql (by omega) hh
    rw [hab] at e45
    obtain ⟨Q, hQ⟩ : ∃ Q, Q = a * b / c := ⟨_, rfl⟩
    obtain ⟨R, hR⟩ : ∃ R, R = a * b % c := ⟨_, rfl⟩
    have hRl : R < c := by rw [hR]; exact Nat.mod_lt _ hc0
    rw [← hQ, ← hR] at e45 ⊢
    have wR : IntKind.i64.wrap (R : Int) = (R : Int) := wrap64 (by omega) (by omega)
    by_cases hq2 : Q ≤ 128849018880000
    · have wQ : IntKind.i64.wrap (Q : Int) = (Q : Int) := wrap64 (by omega) (by omega)
      have h3 : ¬ (128849018880000 : Int) < (Q : Int) := by omega
      simp [f_proportion_divided, e44, iaA, wc, hpc, e45, hq2, h3, wR, wQ]
    · have h3 : (128849018880000 : Int) < (Q : Int) := by omega
      simp [f_proportion_divided, e44, iaA, wc, hpc, e45, hq2, h3]
/-- What 'Of' returns. -/
def propOf (a b c : Int) : Int × Int × Int :=
  if (amt a && amt b && amt c) = false then (0, 0, 2) else if c = 0 then (0, 0, 16) else if a * b / c ≤ 128849018880000 then (a * b / c, a * b % c, 0) else (0, 0, 15)
theorem F_proportion_Of_val (a b c : Int) (h : Hp) : F_proportion_Of [I a, I b, I c] h = some (.tup [I (propOf a b c).1, I (propOf a b c).2.1, I (propOf a b c).2.2], h) := by
  refine F_proportion_Of_run rfl ?_ h
  have e35 : F_proportion_amounts [.sl 1 0 0 3 3 true] [.arr 1 [[I a], [I b], [I c]] true false] = some (B (amt a && amt b && amt c), [.arr 1 [[I a], [I b], [I c]] true false]) := by
    refine closedX_sl1 (es := [a, b, c].map encI) rfl rfl rfl rfl ?_
    have := F_proportion_amounts_val [a, b, c] (by simp) false []
    simp only [List.all_cons, List.all_nil, Bool.and_true, ← Bool.and_assoc] at this
    exact this
  cases hm : (amt a && amt b && amt c) with
  | false => simp [f_proportion_Of, bsE, fillS, e35, hm, propOf]
  | true =>
    simp only [Bool.and_eq_true] at hm
    obtain ⟨⟨m1, m2⟩, m3⟩ := hm
    by_cases hc : c = 0
    · subst hc
      simp [f_proportion_Of, bsE, fillS, e35, m1, m2, m3, propOf]
    · simp only [amt, Bool.and_eq_true, decide_eq_true_eq] at m1 m2 m3
      obtain ⟨x, rfl⟩ := Int.eq_ofNat_of_zero_le m1.1
      obtain ⟨y, rfl⟩ := Int.eq_ofNat_of_zero_le m2.1
      obtain ⟨z, rfl⟩ := Int.eq_ofNat_of_zero_le m3.1
      have e36 := fun hh => F_proportion_divided_val (a := x) (b := y) (c := z) (by omega) (by omega) (by omega) (by omega) hh
      have q1 : ((x : Int) * y / z) = ((x * y / z : Nat) : Int) := by push_cast; rfl
      have q2 : ((x : Int) * y % z) = ((x * y % z : Nat) : Int) := by push_cast; rfl
      unfold propOf
      rw [q1, q2]
      have hz : z ≠ 0 := by omega
      have a1 : amt x = true := by simp [amt]; omega
      have a2 : amt y = true := by simp [amt]; omega
      have a3 : amt z = true := by simp [amt]; omega
      generalize x * y / z = q at *
      generalize x * y % z = r at *
      by_cases hq : q ≤ 128849018880000
      · have hq' : (q : Int) ≤ 128849018880000 := by omega
        rw [if_pos hq] at e36
        simp [f_proportion_Of, bsE, fillS, e35, a1, a2, a3, hc, hz, e36, hq']
      · have hq' : ¬ (q : Int) ≤ 128849018880000 := by omega
        rw [if_neg hq] at e36
        simp [f_proportion_Of, bsE, fillS, e35, a1, a2, a3, hc, hz, e36, hq']
end
end Go.AM
