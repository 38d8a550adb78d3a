import Derived.Test.YtlnjnfbdcdmacaaAmSimp
import Derived.Laws.Bits64b
import Derived.Lib.Mul64
namespace Go.AM
set_option linter.unusedVariables false
set_option linter.constructorNameAsVariable false
variable {β : Type} {P : Program} {ty : TypeId}
abbrev U (n : Nat) : AV := .s (.int .u64 (n : Int))
theorem reck_of {op : BinOp} {a b : Value} {s : Sem Value} {kk : IntKind} {n : Int} (ha : gv a = true) (hb : gv b = true) (hs : (do Go.eqGuard op ty (.tmp 0) (.tmp 0) a b; Go.binOp op ty a b) = s) (hv : s = pure (.int kk n)) (k : K β) :
    reckK P op ty (.s a) (.s b) k = k (.s (.int kk n)) := by
  unfold reckK
  simp only [toV, ha, hb, if_true]
  rw [hs, hv]
  rfl
theorem reck_shr (a s : Nat) (hs : s ≤ 64) (k : K β) : reckK P .shr ty (U a) (U s) k = k (U (a / 2 ^ s)) := by
  refine reck_of (s := Op.shift .shr .u64 a .u64 s) rfl rfl rfl ?_ k
  have h1 : ¬ ((s : Int) < 0) := by omega
  have h2 : min s IntKind.u64.bits = s := by simp [IntKind.bits]; omega
  have h3 : ((a : Int)).fdiv (2 ^ s) = ((a / 2 ^ s : Nat) : Int) := by
    rw [Int.fdiv_eq_ediv_of_nonneg _ (Int.pow_nonneg (by decide))]; push_cast; rfl
  unfold Op.shift
  rw [if_neg h1]
  simp only [Int.toNat_natCast, h2, h3]
theorem reck_shl (a s : Nat) (hs : s ≤ 64) (k : K β) : reckK P .shl ty (U a) (U s) k = k (U (a * 2 ^ s % 18446744073709551616)) := by
  refine reck_of (s := Op.shift .shl .u64 a .u64 s) rfl rfl rfl ?_ k
  have h1 : ¬ ((s : Int) < 0) := by omega
  have h2 : min s IntKind.u64.bits = s := by simp [IntKind.bits]; omega
  have h3 : IntKind.u64.wrap ((a : Int) * 2 ^ s) = ((a * 2 ^ s % 18446744073709551616 : Nat) : Int) := by
    rw [IntKind.wrap_u64, Int.natCast_emod, Int.natCast_mul, Int.natCast_pow]; rfl
  unfold Op.shift
  rw [if_neg h1]
  simp only [Int.toNat_natCast, h2, h3]
theorem reck_quo (a b : Nat) (hb : b ≠ 0) (ha : a < 18446744073709551616) (k : K β) : reckK P .quo ty (U a) (U b) k = k (U (a / b)) := by
  refine reck_of (s := Op.intDiv .quo .u64 a b) rfl rfl rfl ?_ k
  have h1 : ¬ ((b : Int) = 0) := by omega
  have h2 : ((a : Int)).tdiv b = ((a / b : Nat) : Int) := by rw [Int.tdiv_eq_ediv_of_nonneg (by omega)]; push_cast; rfl
  have h4 : a / b < 18446744073709551616 := Nat.lt_of_le_of_lt (Nat.div_le_self _ _) ha
  have h3 : IntKind.u64.wrap (((a / b : Nat) : Int)) = ((a / b : Nat) : Int) := by
    generalize a / b = q at *
    exact wrapU (by omega) (by omega)
  unfold Op.intDiv
  rw [if_neg h1]
  simp only [h2, h3]
theorem reck_rem (a b : Nat) (hb : b ≠ 0) (k : K β) : reckK P .rem ty (U a) (U b) k = k (U (a % b)) := by
  refine reck_of (s := Op.intDiv .rem .u64 a b) rfl rfl rfl ?_ k
  have h1 : ¬ ((b : Int) = 0) := by omega
  have h2 : ((a : Int)).tmod b = ((a % b : Nat) : Int) := by rw [Int.tmod_eq_emod_of_nonneg (by omega)]; push_cast; rfl
  unfold Op.intDiv
  rw [if_neg h1]
  simp only [h2]
theorem reck_and (a b : Nat) (ha : a < 18446744073709551616) (hb : b < 18446744073709551616) (k : K β) : reckK P .and ty (U a) (U b) k = k (U (a &&& b)) := by
  refine reck_of (s := Op.intBits .and .u64 a b) rfl rfl rfl ?_ k
  have := bits_and_u64_nat a b ha hb
  rw [← this]
  rfl
theorem reck_or (a b : Nat) (ha : a < 18446744073709551616) (hb : b < 18446744073709551616) (k : K β) : reckK P .or ty (U a) (U b) k = k (U (a ||| b)) := by
  refine reck_of (s := Op.intBits .or .u64 a b) rfl rfl rfl ?_ k
  have := bits_or_u64_nat a b ha hb
  rw [← this]
  rfl
theorem reck_mask (a : Nat) (ha : a < 18446744073709551616) (k : K β) : reckK P .and ty (U a) (.s (.int .u64 4294967295)) k = k (U (a % 4294967296)) := by
  have h1 := reck_and (P := P) (ty := ty) a 4294967295 ha (by decide) k
  have h2 : a &&& 4294967295 = a % 4294967296 := Nat.and_two_pow_sub_one_eq_mod a 32
  rw [h2] at h1
  exact h1
theorem reck_shr32 (a : Nat) (k : K β) : reckK P .shr ty (U a) (.s (.int .u64 32)) k = k (U (a / 4294967296)) := reck_shr a 32 (by decide) k
theorem u_mulM (a b : Nat) (k : K β) : arithK .mul (U a) (U b) k = k (U (a * b % 18446744073709551616)) := by
  have h3 : IntKind.u64.wrap ((a : Int) * (b : Int)) = ((a * b % 18446744073709551616 : Nat) : Int) := by
    rw [IntKind.wrap_u64, Int.natCast_emod, Int.natCast_mul]; rfl
  rw [arithK_mul, h3]
theorem u_mul (a b : Nat) (h : a * b < 18446744073709551616) (k : K β) : arithK .mul (U a) (U b) k = k (U (a * b)) := by
  rw [u_mulM, Nat.mod_eq_of_lt h]
theorem u_add (a b : Nat) (h : a + b < 18446744073709551616) (k : K β) : arithK .add (U a) (U b) k = k (U (a + b)) := by
  rw [arithK_add, wrapU (by omega) (by omega)]
  push_cast
  rfl
theorem u_sub (a b : Nat) (h : b ≤ a) (ha : a < 18446744073709551616) (k : K β) : arithK .sub (U a) (U b) k = k (U (a - b)) := by
  rw [arithK_sub, wrapU (by omega) (by omega)]
  have : ((a : Int) - (b : Int)) = ((a - b : Nat) : Int) := by omega
  rw [this]
/-- A difference, modulo 2^64. -/
theorem u_subM (a b d : Nat) (hd : d < 18446744073709551616) (h : (b + d) % 18446744073709551616 = a % 18446744073709551616) (k : K β) : arithK .sub (U a) (U b) k = k (U d) := by
  rw [arithK_sub, IntKind.wrap_u64]
  have : ((a : Int) - (b : Int)) % 18446744073709551616 = (d : Int) := by omega
  rw [this]
theorem u_addM (a b d : Nat) (hd : d < 18446744073709551616) (h : d % 18446744073709551616 = (a + b) % 18446744073709551616) (k : K β) : arithK .add (U a) (U b) k = k (U d) := by
  rw [arithK_add, IntKind.wrap_u64]
  have : ((a : Int) + (b : Int)) % 18446744073709551616 = (d : Int) := by omega
  rw [this]
theorem pureVal_pure {α : Type} (a : α) : pureVal P (pure a) = some a := rfl
theorem pureVal_bnd {α γ : Type} (s : Sem α) (f : α → Sem γ) : pureVal P (s >>= f) = (pureVal P s).bind fun a => pureVal P (f a) := by
  show pureVal P (Sem.bind s f) = _
  induction s with
  | pure a => rfl
  | program k ih => simp only [Sem.bind, pureVal]; exact ih P
  | _ => rfl
theorem pureVal_underlying {t : TypeId} {d : TypeDesc} (h : P.underlying t = some d) : pureVal P (underlying t) = some d := by
  unfold underlying
  rw [pureVal_bnd]
  show (some P).bind _ = _
  simp only [Option.bind_some, h]
  rfl
theorem convK_int {a b : TypeId} {da : TypeDesc} {ka kb : IntKind} {n : Int} (ha : P.underlying a = some da) (hb : P.underlying b = some (.int kb)) (k : K β) : convK P a b (.s (.int ka n)) k = k (.s (.int kb (kb.wrap n))) := by
  have : pureVal P (Go.convert a b (.int ka n)) = some (.int kb (kb.wrap n)) := by
    unfold Go.convert
    rw [pureVal_bnd, pureVal_underlying ha, Option.bind_some, pureVal_bnd, pureVal_underlying hb, Option.bind_some]
    rfl
  unfold convK
  simp only [toV, gv, if_true, this]
  rfl
end Go.AM
