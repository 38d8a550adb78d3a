import Derived.Test.YtoamikbdfedngaaGreatG2
import Derived.Laws.Bits64b
import Derived.Lib.Mul64
import Derived.Test.YtoamikbdfedngaaGreatProg
set_option linter.unusedSectionVars false
set_option linter.unusedVariables false
set_option linter.unusedSimpArgs false
set_option linter.constructorNameAsVariable false
namespace Go.AM
set_option linter.unusedVariables false
set_option linter.constructorNameAsVariable false
variable {β : Type} {P : Program} {ty : TypeId}
abbrev U (n : Nat) : AV := .s (.int .u64 (n : Int))
theorem reck_of {op : BinOp} {a b : Value} {s : Sem Value} {kk : IntKind} {n : Int} (ha : gv a = true) (hb : gv b = true) (hs : (do Go.eqGuard op ty (.tmp 0) (.tmp 0) a b; Go.binOp op ty a b) = s) (hv : s = pure (.int kk n)) (k : K β) :
    reckK P op ty (.s a) (.s b) k = k (.s (.int kk n)) := by
  unfold reckK
  simp only [toV, ha, hb, if_true]
  rw [hs, hv]
  rfl
theorem reck_shr (a s : Nat) (hs : s ≤ 64) (k : K β) : reckK P .shr ty (U a) (U s) k = k (U (a / 2 ^ s)) := by
  refine reck_of (s := Op.shift .shr .u64 a .u64 s) rfl rfl rfl ?_ k
  have h1 : ¬ ((s : Int) < 0) := by omega
  have h2 : min s IntKind.u64.bits = s := by simp [IntKind.bits]; omega
  have h3 : ((a : Int)).fdiv (2 ^ s) = ((a / 2 ^ s : Nat) : Int) := by
    rw [Int.fdiv_eq_ediv_of_nonneg _ (Int.pow_nonneg (by decide))]; push_cast; rfl
  unfold Op.shift
  rw [if_neg h1]
  simp only [Int.toNat_natCast, h2, h3]
theorem reck_shl (a s : Nat) (hs : s ≤ 64) (k : K β) : reckK P .shl ty (U a) (U s) k = k (U (a * 2 ^ s % 18446744073709551616)) := by
  refine reck_of (s := Op.shift .shl .u64 a .u64 s) rfl rfl rfl ?_ k
  have h1 : ¬ ((s : Int) < 0) := by omega
  have h2 : min s IntKind.u64.bits = s := by simp [IntKind.bits]; omega
  have h3 : IntKind.u64.wrap ((a : Int) * 2 ^ s) = ((a * 2 ^ s % 18446744073709551616 : Nat) : Int) := by
    rw [IntKind.wrap_u64, Int.natCast_emod, Int.natCast_mul, Int.natCast_pow]; rfl
  unfold Op.shift
  rw [if_neg h1]
  simp only [Int.toNat_natCast, h2, h3]
theorem reck_quo (a b : Nat) (hb : b ≠ 0) (ha : a < 18446744073709551616) (k : K β) : reckK P .quo ty (U a) (U b) k = k (U (a / b)) := by
  refine reck_of (s := Op.intDiv .quo .u64 a b) rfl rfl rfl ?_ k
  have h1 : ¬ ((b : Int) = 0) := by omega
  have h2 : ((a : Int)).tdiv b = ((a / b : Nat) : Int) := by rw [Int.tdiv_eq_ediv_of_nonneg (by omega)]; push_cast; rfl
  have h4 : a / b < 18446744073709551616 := Nat.lt_of_le_of_lt (Nat.div_le_self _ _) ha
  have h3 : IntKind.u64.wrap (((a / b : Nat) : Int)) = ((a / b : Nat) : Int) := by
    generalize a / b = q at *
    exact wrapU (by omega) (by omega)
  unfold Op.intDiv
  rw [if_neg h1]
  simp only [h2, h3]
theorem reck_rem (a b : Nat) (hb : b ≠ 0) (k : K β) : reckK P .rem ty (U a) (U b) k = k (U (a % b)) := by
  refine reck_of (s := Op.intDiv .rem .u64 a b) rfl rfl rfl ?_ k
  have h1 : ¬ ((b : Int) = 0) := by omega
  have h2 : ((a : Int)).tmod b = ((a % b : Nat) : Int) := by rw [Int.tmod_eq_emod_of_nonneg (by omega)]; push_cast; rfl
  unfold Op.intDiv
  rw [if_neg h1]
  simp only [h2]
theorem reck_quoI (a b : Nat) (hb : b ≠ 0) (ha : a < 9223372036854775808) (k : K β) : reckK P .quo ty (I a) (I b) k = k (I ((a / b : Nat) : Int)) := by
  refine reck_of (s := Op.intDiv .quo .i64 a b) rfl rfl rfl ?_ k
  have h1 : ¬ ((b : Int) = 0) := by omega
  have h2 : ((a : Int)).tdiv b = ((a / b : Nat) : Int) := by rw [Int.tdiv_eq_ediv_of_nonneg (by omega)]; push_cast; rfl
  have h4 : a / b < 9223372036854775808 := Nat.lt_of_le_of_lt (Nat.div_le_self _ _) ha
  have h3 : IntKind.i64.wrap (((a / b : Nat) : Int)) = ((a / b : Nat) : Int) := by
    generalize a / b = q at *
    exact wrap64 (by omega) (by omega)
  unfold Op.intDiv
  rw [if_neg h1]
  simp only [h2, h3]
theorem reck_remI (a b : Nat) (hb : b ≠ 0) (k : K β) : reckK P .rem ty (I a) (I b) k = k (I ((a % b : Nat) : Int)) := by
  refine reck_of (s := Op.intDiv .rem .i64 a b) rfl rfl rfl ?_ k
  have h1 : ¬ ((b : Int) = 0) := by omega
  have h2 : ((a : Int)).tmod b = ((a % b : Nat) : Int) := by rw [Int.tmod_eq_emod_of_nonneg (by omega)]; push_cast; rfl
  unfold Op.intDiv
  rw [if_neg h1]
  simp only [h2]
theorem reck_and (a b : Nat) (ha : a < 18446744073709551616) (hb : b < 18446744073709551616) (k : K β) : reckK P .and ty (U a) (U b) k = k (U (a &&& b)) := by
  refine reck_of (s := Op.intBits .and .u64 a b) rfl rfl rfl ?_ k
  have := bits_and_u64_nat a b ha hb
  rw [← this]
  rfl
theorem reck_or (a b : Nat) (ha : a < 18446744073709551616) (hb : b < 18446744073709551616) (k : K β) : reckK P .or ty (U a) (U b) k = k (U (a ||| b)) := by
  refine reck_of (s := Op.intBits .or .u64 a b) rfl rfl rfl ?_ k
  have := bits_or_u64_nat a b ha hb
  rw [← this]
  rfl
theorem reck_mask (a : Nat) (ha : a < 18446744073709551616) (k : K β) : reckK P .and ty (U a) (.s (.int .u64 4294967295)) k = k (U (a % 4294967296)) := by
  have h1 := reck_and (P := P) (ty := ty) a 4294967295 ha (by decide) k
  have h2 : a &&& 4294967295 = a % 4294967296 := Nat.and_two_pow_sub_one_eq_mod a 32
  rw [h2] at h1
  exact h1
theorem reck_shr32 (a : Nat) (k : K β) : reckK P .shr ty (U a) (.s (.int .u64 32)) k = k (U (a / 4294967296)) := reck_shr a 32 (by decide) k
theorem u_mulM (a b : Nat) (k : K β) : arithK .mul (U a) (U b) k = k (U (a * b % 18446744073709551616)) := by
  have h3 : IntKind.u64.wrap ((a : Int) * (b : Int)) = ((a * b % 18446744073709551616 : Nat) : Int) := by
    rw [IntKind.wrap_u64, Int.natCast_emod, Int.natCast_mul]; rfl
  rw [arithK_mul, h3]
theorem u_mul (a b : Nat) (h : a * b < 18446744073709551616) (k : K β) : arithK .mul (U a) (U b) k = k (U (a * b)) := by
  rw [u_mulM, Nat.mod_eq_of_lt h]
theorem u_add (a b : Nat) (h : a + b < 18446744073709551616) (k : K β) : arithK .add (U a) (U b) k = k (U (a + b)) := by
  rw [arithK_add, wrapU (by omega) (by omega)]
  push_cast
  rfl
theorem u_sub (a b : Nat) (h : b ≤ a) (ha : a < 18446744073709551616) (k : K β) : arithK .sub (U a) (U b) k = k (U (a - b)) := by
  rw [arithK_sub, wrapU (by omega) (by omega)]
  have : ((a : Int) - (b : Int)) = ((a - b : Nat) : Int) := by omega
  rw [this]
theorem u_subM (a b d : Nat) (hd : d < 18446744073709551616) (h : (b + d) % 18446744073709551616 = a % 18446744073709551616) (k : K β) : arithK .sub (U a) (U b) k = k (U d) := by
  rw [arithK_sub, IntKind.wrap_u64]
  have : ((a : Int) - (b : Int)) % 18446744073709551616 = (d : Int) := by omega
  rw [this]
theorem u_addM (a b d : Nat) (hd : d < 18446744073709551616) (h : d % 18446744073709551616 = (a + b) % 18446744073709551616) (k : K β) : arithK .add (U a) (U b) k = k (U d) := by
  rw [arithK_add, IntKind.wrap_u64]
  have : ((a : Int) + (b : Int)) % 18446744073709551616 = (d : Int) := by omega
  rw [this]
theorem pureVal_pure {α : Type} (a : α) : pureVal P (pure a) = some a := rfl
theorem pureVal_bnd {α γ : Type} (s : Sem α) (f : α → Sem γ) : pureVal P (s >>= f) = (pureVal P s).bind fun a => pureVal P (f a) := by
  show pureVal P (Sem.bind s f) = _
  induction s with
  | pure a => rfl
  | program k ih => simp only [Sem.bind, pureVal]; exact ih P
  | _ => rfl
theorem pureVal_underlying {t : TypeId} {d : TypeDesc} (h : P.underlying t = some d) : pureVal P (underlying t) = some d := by
  unfold underlying
  rw [pureVal_bnd]
  show (some P).bind _ = _
  simp only [Option.bind_some, h]
  rfl
theorem convK_int {a b : TypeId} {da : TypeDesc} {ka kb : IntKind} {n : Int} (ha : P.underlying a = some da) (hb : P.underlying b = some (.int kb)) (k : K β) : convK P a b (.s (.int ka n)) k = k (.s (.int kb (kb.wrap n))) := by
  have : pureVal P (Go.convert a b (.int ka n)) = some (.int kb (kb.wrap n)) := by
    unfold Go.convert
    rw [pureVal_bnd, pureVal_underlying ha, Option.bind_some, pureVal_bnd, pureVal_underlying hb, Option.bind_some]
    rfl
  unfold convK
  simp only [toV, gv, if_true, this]
  rfl
end Go.AM


namespace Go.AM
open Go.RowKit
set_option linter.unusedVariables false
set_option linter.unusedSimpArgs false
set_option linter.constructorNameAsVariable false
variable {P : Program} {μ μ' : Mu} {h h' : Hp} {w w' : World} {ks : List Nat} {np : Nat}
end Go.AM


namespace Go.AM
open Go.Proofs
set_option linter.unusedVariables false
set_option maxRecDepth 100000
theorem un_3 : Tryz.prog.underlying 3 = some (.int .i64) := by kernel_rfl
theorem un_111 : Tryz.prog.underlying 111 = some (.int .u64) := by kernel_rfl
@[simp] theorem cv_3_111 {β : Type} (n : Int) (k : K β) : convK Tryz.prog 3 111 (.s (.int .i64 n)) k = k (.s (.int .u64 (IntKind.u64.wrap n))) := convK_int un_3 un_111 k
theorem un_115 : Tryz.prog.underlying 115 = some (.int .u64) := by kernel_rfl
@[simp] theorem cv_3_115 {β : Type} (n : Int) (k : K β) : convK Tryz.prog 3 115 (.s (.int .i64 n)) k = k (.s (.int .u64 (IntKind.u64.wrap n))) := convK_int un_3 un_115 k
theorem un_5 : Tryz.prog.underlying 5 = some (.int .u8) := by kernel_rfl
@[simp] theorem cv_5_3 {β : Type} (n : Int) (k : K β) : convK Tryz.prog 5 3 (.s (.int .u8 n)) k = k (.s (.int .i64 (IntKind.i64.wrap n))) := convK_int un_5 un_3 k
@[simp] theorem cv_111_3 {β : Type} (n : Int) (k : K β) : convK Tryz.prog 111 3 (.s (.int .u64 n)) k = k (.s (.int .i64 (IntKind.i64.wrap n))) := convK_int un_111 un_3 k
@[simp] theorem cv_115_3 {β : Type} (n : Int) (k : K β) : convK Tryz.prog 115 3 (.s (.int .u64 n)) k = k (.s (.int .i64 (IntKind.i64.wrap n))) := convK_int un_115 un_3 k
@[simp] theorem cv_115_5 {β : Type} (n : Int) (k : K β) : convK Tryz.prog 115 5 (.s (.int .u64 n)) k = k (.s (.int .u8 (IntKind.u8.wrap n))) := convK_int un_115 un_5 k
@[simp] theorem el_22 : elemOf Tryz.prog 22 = some 33 := by kernel_rfl
@[simp] theorem eqn_22_false {β : Type} (h : Hp) (k : K β) : eqK Tryz.prog false 22 (.s (.slice none 0 0)) (.s (.slice none 0 0)) h k = k (.s (.bool true)) := by kernel_rfl
@[simp] theorem eqn_22_true {β : Type} (h : Hp) (k : K β) : eqK Tryz.prog true 22 (.s (.slice none 0 0)) (.s (.slice none 0 0)) h k = k (.s (.bool false)) := by kernel_rfl
@[simp] theorem el_41 : elemOf Tryz.prog 41 = some 67 := by kernel_rfl
@[simp] theorem eqn_41_false {β : Type} (h : Hp) (k : K β) : eqK Tryz.prog false 41 (.s (.slice none 0 0)) (.s (.slice none 0 0)) h k = k (.s (.bool true)) := by kernel_rfl
@[simp] theorem eqn_41_true {β : Type} (h : Hp) (k : K β) : eqK Tryz.prog true 41 (.s (.slice none 0 0)) (.s (.slice none 0 0)) h k = k (.s (.bool false)) := by kernel_rfl
@[simp] theorem eqs_35 {β : Type} (neq : Bool) (a0 : Int) (a1 : Int) (a2 : Int) (a3 : Int) (b0 : Int) (b1 : Int) (b2 : Int) (b3 : Int) (h : Hp) (k : K β) : eqK Tryz.prog neq 35 (.agg [.s (.int .i64 a0), .s (.int .i64 a1), .s (.int .i64 a2), .s (.int .i64 a3)]) (.agg [.s (.int .i64 b0), .s (.int .i64 b1), .s (.int .i64 b2), .s (.int .i64 b3)]) h k = k (.s (.bool (xor neq ((a0 == b0) && ((a1 == b1) && ((a2 == b2) && ((a3 == b3) && (true)))))))) := by
  have e1 : Tryz.prog.eqGuardType Tryz.prog.depth 35 = false := by kernel_rfl
  have e2 : aggT Tryz.prog 35 = true := by kernel_rfl
  have e3 : eqFlat Tryz.prog 8 35 [.s (.int .i64 a0), .s (.int .i64 a1), .s (.int .i64 a2), .s (.int .i64 a3)] [.s (.int .i64 b0), .s (.int .i64 b1), .s (.int .i64 b2), .s (.int .i64 b3)] = some ((a0 == b0) && ((a1 == b1) && ((a2 == b2) && ((a3 == b3) && (true))))) := by kernel_rfl
  simp only [eqK, e1, e2, e3]
@[simp] theorem eqs_47 {β : Type} (neq : Bool) (a0 : Int) (a1 : Int) (a2 : Int) (a3 : Int) (a4 : Int) (a5 : Int) (a6 : Int) (a7 : Bool) (a8 : Bool) (b0 : Int) (b1 : Int) (b2 : Int) (b3 : Int) (b4 : Int) (b5 : Int) (b6 : Int) (b7 : Bool) (b8 : Bool) (h : Hp) (k : K β) : eqK Tryz.prog neq 47 (.agg [.s (.int .i64 a0), .s (.int .i64 a1), .s (.int .i64 a2), .s (.int .i64 a3), .s (.int .i64 a4), .s (.int .i64 a5), .s (.int .i64 a6), .s (.bool a7), .s (.bool a8)]) (.agg [.s (.int .i64 b0), .s (.int .i64 b1), .s (.int .i64 b2), .s (.int .i64 b3), .s (.int .i64 b4), .s (.int .i64 b5), .s (.int .i64 b6), .s (.bool b7), .s (.bool b8)]) h k = k (.s (.bool (xor neq ((a0 == b0) && ((a1 == b1) && ((a2 == b2) && ((a3 == b3) && ((a4 == b4) && ((a5 == b5) && ((a6 == b6) && ((a7 == b7) && ((a8 == b8) && (true))))))))))))) := by
  have e1 : Tryz.prog.eqGuardType Tryz.prog.depth 47 = false := by kernel_rfl
  have e2 : aggT Tryz.prog 47 = true := by kernel_rfl
  have e3 : eqFlat Tryz.prog 8 47 [.s (.int .i64 a0), .s (.int .i64 a1), .s (.int .i64 a2), .s (.int .i64 a3), .s (.int .i64 a4), .s (.int .i64 a5), .s (.int .i64 a6), .s (.bool a7), .s (.bool a8)] [.s (.int .i64 b0), .s (.int .i64 b1), .s (.int .i64 b2), .s (.int .i64 b3), .s (.int .i64 b4), .s (.int .i64 b5), .s (.int .i64 b6), .s (.bool b7), .s (.bool b8)] = some ((a0 == b0) && ((a1 == b1) && ((a2 == b2) && ((a3 == b3) && ((a4 == b4) && ((a5 == b5) && ((a6 == b6) && ((a7 == b7) && ((a8 == b8) && (true)))))))))) := by kernel_rfl
  simp only [eqK, e1, e2, e3]
@[simp] theorem eqs_51 {β : Type} (neq : Bool) (a0 : Int) (a1 : Int) (a2 : Int) (a3 : Int) (a4 : Int) (a5 : Int) (a6 : Int) (b0 : Int) (b1 : Int) (b2 : Int) (b3 : Int) (b4 : Int) (b5 : Int) (b6 : Int) (h : Hp) (k : K β) : eqK Tryz.prog neq 51 (.agg [.s (.int .i64 a0), .s (.int .i64 a1), .s (.int .i64 a2), .s (.int .i64 a3), .s (.int .i64 a4), .s (.int .i64 a5), .s (.int .i64 a6)]) (.agg [.s (.int .i64 b0), .s (.int .i64 b1), .s (.int .i64 b2), .s (.int .i64 b3), .s (.int .i64 b4), .s (.int .i64 b5), .s (.int .i64 b6)]) h k = k (.s (.bool (xor neq ((a0 == b0) && ((a1 == b1) && ((a2 == b2) && ((a3 == b3) && ((a4 == b4) && ((a5 == b5) && ((a6 == b6) && (true))))))))))) := by
  have e1 : Tryz.prog.eqGuardType Tryz.prog.depth 51 = false := by kernel_rfl
  have e2 : aggT Tryz.prog 51 = true := by kernel_rfl
  have e3 : eqFlat Tryz.prog 8 51 [.s (.int .i64 a0), .s (.int .i64 a1), .s (.int .i64 a2), .s (.int .i64 a3), .s (.int .i64 a4), .s (.int .i64 a5), .s (.int .i64 a6)] [.s (.int .i64 b0), .s (.int .i64 b1), .s (.int .i64 b2), .s (.int .i64 b3), .s (.int .i64 b4), .s (.int .i64 b5), .s (.int .i64 b6)] = some ((a0 == b0) && ((a1 == b1) && ((a2 == b2) && ((a3 == b3) && ((a4 == b4) && ((a5 == b5) && ((a6 == b6) && (true)))))))) := by kernel_rfl
  simp only [eqK, e1, e2, e3]
@[simp] theorem eqs_67 {β : Type} (neq : Bool) (a0 : Int) (a1 : Int) (a2 : Int) (a3 : Int) (a4 : Int) (a5 : Int) (a6 : Int) (b0 : Int) (b1 : Int) (b2 : Int) (b3 : Int) (b4 : Int) (b5 : Int) (b6 : Int) (h : Hp) (k : K β) : eqK Tryz.prog neq 67 (.agg [.s (.int .i64 a0), .s (.int .i64 a1), .s (.int .i64 a2), .s (.int .i64 a3), .s (.int .i64 a4), .s (.int .i64 a5), .s (.int .i64 a6)]) (.agg [.s (.int .i64 b0), .s (.int .i64 b1), .s (.int .i64 b2), .s (.int .i64 b3), .s (.int .i64 b4), .s (.int .i64 b5), .s (.int .i64 b6)]) h k = k (.s (.bool (xor neq ((a0 == b0) && ((a1 == b1) && ((a2 == b2) && ((a3 == b3) && ((a4 == b4) && ((a5 == b5) && ((a6 == b6) && (true))))))))))) := by
  have e1 : Tryz.prog.eqGuardType Tryz.prog.depth 67 = false := by kernel_rfl
  have e2 : aggT Tryz.prog 67 = true := by kernel_rfl
  have e3 : eqFlat Tryz.prog 8 67 [.s (.int .i64 a0), .s (.int .i64 a1), .s (.int .i64 a2), .s (.int .i64 a3), .s (.int .i64 a4), .s (.int .i64 a5), .s (.int .i64 a6)] [.s (.int .i64 b0), .s (.int .i64 b1), .s (.int .i64 b2), .s (.int .i64 b3), .s (.int .i64 b4), .s (.int .i64 b5), .s (.int .i64 b6)] = some ((a0 == b0) && ((a1 == b1) && ((a2 == b2) && ((a3 == b3) && ((a4 == b4) && ((a5 == b5) && ((a6 == b6) && (true)))))))) := by kernel_rfl
  simp only [eqK, e1, e2, e3]
@[simp] theorem eqs_122 {β : Type} (neq : Bool) (a0 : Int) (a1 : Int) (a2 : Int) (b0 : Int) (b1 : Int) (b2 : Int) (h : Hp) (k : K β) : eqK Tryz.prog neq 122 (.agg [.s (.int .i64 a0), .s (.int .i64 a1), .s (.int .i64 a2)]) (.agg [.s (.int .i64 b0), .s (.int .i64 b1), .s (.int .i64 b2)]) h k = k (.s (.bool (xor neq ((a0 == b0) && ((a1 == b1) && ((a2 == b2) && (true))))))) := by
  have e1 : Tryz.prog.eqGuardType Tryz.prog.depth 122 = false := by kernel_rfl
  have e2 : aggT Tryz.prog 122 = true := by kernel_rfl
  have e3 : eqFlat Tryz.prog 8 122 [.s (.int .i64 a0), .s (.int .i64 a1), .s (.int .i64 a2)] [.s (.int .i64 b0), .s (.int .i64 b1), .s (.int .i64 b2)] = some ((a0 == b0) && ((a1 == b1) && ((a2 == b2) && (true)))) := by kernel_rfl
  simp only [eqK, e1, e2, e3]
noncomputable def f_law45_JourneyDocuments_j2 (P : Program) (T : Tab) (D : DTab) (N : Nat) {β : Type} (K : AV → Hp → Option β) (v0 : AV) (v10 : AV) (v12 : AV) (h : Hp) : Option β :=
ldK 7 true v10 h fun x54 =>
ldK 7 true v12 h fun x55 =>
eqK P false 51 x54 x55 h fun x56 =>
grpK true x56 h (fun k57 =>
faK 6 v10 fun x58 =>
ldK 1 false x58 h fun x59 =>
arithK .geq x59 (.s (.int .i64 0)) fun x60 =>
k57 x60 h) fun x61 h62 =>
grpK true x61 h62 (fun k63 =>
faK 6 v10 fun x64 =>
ldK 1 false x64 h62 fun x65 =>
lenK v0 fun x66 =>
maxK x66 (.s (.int .i64 1)) fun x67 =>
arithK .lss x65 x67 fun x68 =>
k63 x68 h62) fun x69 h70 =>
K x69 h70
noncomputable def f_law45_JourneyDocuments_j1 (P : Program) (T : Tab) (D : DTab) (N : Nat) {β : Type} (K : AV → Hp → Option β) (v0 : AV) (v7 : AV) (v10 : AV) (v12 : AV) (h : Hp) : Option β :=
faK 8 v7 fun x71 =>
ldK 1 false x71 h fun x72 =>
condK x72 (
faK 1 v12 fun x73 =>
effK (stE 1 x73 (.s (.int .i64 4)) h) h fun x74 h75 =>
f_law45_JourneyDocuments_j2 P T D N K v0 v10 v12 h75) (
f_law45_JourneyDocuments_j2 P T D N K v0 v10 v12 h)
noncomputable def f_law45_JourneyDocuments (P : Program) (T : Tab) (D : DTab) (N : Nat) {β : Type} (K : AV → Hp → Option β) (a0 : AV) (a1 : AV) (h : Hp) : Option β :=
callK (T 5) [] h fun x1 h2 =>
notK x1 fun x3 =>
condK x3 (
K (.s (.bool false)) h2) (
lenK a0 fun x4 =>
arithK .gtr x4 (.s (.int .i64 16)) fun x5 =>
condK x5 (
K (.s (.bool true)) h2) (
callK (T 9) [a0] h2 fun x6 h7 =>
callK (T 14) [x6, a1] h7 fun x8 h9 =>
exK x8 0 fun x10 =>
exK x8 1 fun x11 =>
callK (T 9) [a0] h9 fun x12 h13 =>
callK (T 17) [x12] h13 fun x14 h15 =>
exK x14 0 fun x16 =>
exK x14 1 fun x17 =>
exK x14 2 fun x18 =>
effK (boxE 9 (.agg [.s (.int .i64 0), .s (.int .i64 0), .s (.int .i64 0), .s (.int .i64 0), .s (.int .i64 0), .s (.int .i64 0), .s (.int .i64 0), .s (.bool false), .s (.bool false)]) (List.length h15)) h15 fun x19 h20 =>
effK (stE 9 x19 x16 h20) h20 fun x21 h22 =>
eqK P true 28 x11 (.s (.int .i64 0)) h22 fun x23 =>
condK x23 (
lenK x10 fun x24 =>
eqK P false 3 x24 (.s (.int .i64 0)) h22 fun x25 =>
K x25 h22) (
callK (T 18) [x10, a1] h22 fun x26 h27 =>
exK x26 0 fun x28 =>
exK x26 1 fun x29 =>
effK (boxE 7 (.agg [.s (.int .i64 0), .s (.int .i64 0), .s (.int .i64 0), .s (.int .i64 0), .s (.int .i64 0), .s (.int .i64 0), .s (.int .i64 0)]) (List.length h27)) h27 fun x30 h31 =>
effK (stE 7 x30 x28 h31) h31 fun x32 h33 =>
eqK P true 28 x18 (.s (.int .i64 0)) h33 fun x34 =>
grpK false x34 h33 (fun k35 =>
eqK P true 28 x29 (.s (.int .i64 0)) h33 fun x36 =>
k35 x36 h33) fun x37 h38 =>
condK x37 (
K (.s (.bool false)) h38) (
faK 5 x19 fun x39 =>
ldK 1 false x39 h38 fun x40 =>
faK 6 x19 fun x41 =>
ldK 1 false x41 h38 fun x42 =>
faK 0 x19 fun x43 =>
ldK 1 false x43 h38 fun x44 =>
faK 3 x19 fun x45 =>
ldK 1 false x45 h38 fun x46 =>
faK 6 x30 fun x47 =>
ldK 1 false x47 h38 fun x48 =>
buildK [.s (.int .i64 0), .s (.int .i64 0), .s (.int .i64 0), .s (.int .i64 0), .s (.int .i64 0), .s (.int .i64 0), .s (.int .i64 0)] [(some (0, 1), a1), (some (2, 1), x40), (some (3, 1), x42), (some (4, 1), x44), (some (5, 1), x46), (some (6, 1), x48)] fun x49 =>
effK (boxE 7 (.agg [.s (.int .i64 0), .s (.int .i64 0), .s (.int .i64 0), .s (.int .i64 0), .s (.int .i64 0), .s (.int .i64 0), .s (.int .i64 0)]) (List.length h38)) h38 fun x50 h51 =>
effK (stE 7 x50 x49 h51) h51 fun x52 h53 =>
lenK a0 fun x76 =>
arithK .gtr x76 (.s (.int .i64 0)) fun x77 =>
condK x77 (
faK 1 x50 fun x78 =>
effK (stE 1 x78 (.s (.int .i64 1)) h53) h53 fun x79 h80 =>
f_law45_JourneyDocuments_j1 P T D N K a0 x19 x30 x50 h80) (
f_law45_JourneyDocuments_j1 P T D N K a0 x19 x30 x50 h53)))))
theorem f_law45_JourneyDocuments_run (T : Tab) (D : DTab) (N : Nat) {β : Type} (K : AV → Hp → Option β) (a0 : AV) (a1 : AV) (h : Hp) : runK Tryz.prog T D N [0, 1, 4, 5, 6, 7, 9, 10, 11, 12, 14, 17, 33, 48, 63, 66] Tryz.f4 K [a0, a1] h = f_law45_JourneyDocuments Tryz.prog T D N K a0 a1 h := by kernel_rfl
noncomputable def f_law45_awake (P : Program) (T : Tab) (D : DTab) (N : Nat) {β : Type} (K : AV → Hp → Option β) (h : Hp) : Option β :=
callK (T 19) [] h fun x1 h2 =>
callK (T 17) [x1] h2 fun x3 h4 =>
exK x3 0 fun x5 =>
exK x3 1 fun x6 =>
exK x3 2 fun x7 =>
effK (boxE 9 (.agg [.s (.int .i64 0), .s (.int .i64 0), .s (.int .i64 0), .s (.int .i64 0), .s (.int .i64 0), .s (.int .i64 0), .s (.int .i64 0), .s (.bool false), .s (.bool false)]) (List.length h4)) h4 fun x8 h9 =>
effK (stE 9 x8 x5 h9) h9 fun x10 h11 =>
callK (T 19) [] h11 fun x12 h13 =>
effK (bsE 1 [.s (.slice none 0 0)] 1 [(0, x12)] (List.length h13)) h13 fun x14 h15 =>
callK (T 20) [x14, (.s (.int .i64 15))] h15 fun x16 h17 =>
exK x16 0 fun x18 =>
exK x16 1 fun x19 =>
callK (T 19) [] h17 fun x20 h21 =>
callK (T 8) [x20, (.s (.int .i64 100))] h21 fun x22 h23 =>
exK x22 0 fun x24 =>
exK x22 1 fun x25 =>
exK x22 2 fun x26 =>
callK (T 19) [] h23 fun x27 h28 =>
callK (T 21) [] h28 fun x29 h30 =>
callK (T 11) [x27, x29] h30 fun x31 h32 =>
exK x31 0 fun x33 =>
exK x31 1 fun x34 =>
effK (boxE 4 (.agg [.s (.int .i64 0), .s (.int .i64 0), .s (.int .i64 0), .s (.int .i64 0)]) (List.length h32)) h32 fun x35 h36 =>
effK (stE 4 x35 x33 h36) h36 fun x37 h38 =>
callK (T 19) [] h38 fun x39 h40 =>
callK (T 14) [x39, (.s (.int .i64 7))] h40 fun x41 h42 =>
exK x41 0 fun x43 =>
exK x41 1 fun x44 =>
ldK 9 true x8 h42 fun x45 =>
buildK [.s (.int .i64 0), .s (.int .i64 0), .s (.int .i64 0), .s (.int .i64 0), .s (.int .i64 0), .s (.int .i64 0), .s (.int .i64 0), .s (.bool false), .s (.bool false)] [(some (0, 1), (.s (.int .i64 1000))), (some (2, 1), (.s (.int .i64 50))), (some (3, 1), (.s (.int .i64 950))), (some (5, 1), (.s (.int .i64 1))), (some (6, 1), (.s (.int .i64 3))), (some (8, 1), (.s (.bool true)))] fun x46 =>
eqK P false 47 x45 x46 h42 fun x47 =>
grpK true x47 h42 (fun k48 =>
eqK P false 3 x6 (.s (.int .i64 (-1))) h42 fun x49 =>
k48 x49 h42) fun x50 h51 =>
grpK true x50 h51 (fun k52 =>
eqK P false 3 x18 (.s (.int .i64 1000)) h51 fun x53 =>
k52 x53 h51) fun x54 h55 =>
grpK true x54 h55 (fun k56 =>
eqK P false 3 x24 (.s (.int .i64 10)) h55 fun x57 =>
k56 x57 h55) fun x58 h59 =>
grpK true x58 h59 (fun k60 =>
eqK P false 3 x25 (.s (.int .i64 3)) h59 fun x61 =>
k60 x61 h59) fun x62 h63 =>
grpK true x62 h63 (fun k64 =>
ldK 4 true x35 h63 fun x65 =>
buildK [.s (.int .i64 0), .s (.int .i64 0), .s (.int .i64 0), .s (.int .i64 0)] [(some (0, 1), (.s (.int .i64 10))), (some (2, 1), (.s (.int .i64 40)))] fun x66 =>
eqK P false 35 x65 x66 h63 fun x67 =>
k64 x67 h63) fun x68 h69 =>
grpK true x68 h69 (fun k70 =>
lenK x43 fun x71 =>
eqK P false 3 x71 (.s (.int .i64 4)) h69 fun x72 =>
k70 x72 h69) fun x73 h74 =>
grpK true x73 h74 (fun k75 =>
arithK .add x7 x19 fun x76 =>
arithK .add x76 x26 fun x77 =>
arithK .add x77 x34 fun x78 =>
arithK .add x78 x44 fun x79 =>
eqK P false 28 x79 (.s (.int .i64 0)) h74 fun x80 =>
k75 x80 h74) fun x81 h82 =>
K x81 h82
theorem f_law45_awake_run (T : Tab) (D : DTab) (N : Nat) {β : Type} (K : AV → Hp → Option β) (h : Hp) : runK Tryz.prog T D N [0, 1, 2, 3, 4, 5, 6, 7, 8, 9, 10, 11, 12] Tryz.f5 K [] h = f_law45_awake Tryz.prog T D N K  h := by kernel_rfl
noncomputable def o_journey_Days_j2 (P : Program) (T : Tab) (D : DTab) (N : Nat) {β : Type} (K : AV → Hp → Option β) (t : Tm) (h : Hp) : Option β :=
iaK 5 (t 0) (.s (.int .i64 0)) fun x16 =>
faK 0 x16 fun x17 =>
ldK 1 false x17 h fun x18 =>
arithK .sub (t 7) x18 fun x19 =>
K (.tup [x19, (t 8), (.s (.int .i64 0))]) h
noncomputable def o_journey_Days_j1 (P : Program) (T : Tab) (D : DTab) (N : Nat) {β : Type} (K : AV → Hp → Option β) (t : Tm) (h : Hp) : Option β :=
arithK .geq (t 9) (.s (.int .i64 0)) fun x20 =>
condK x20 (
arithK .sub (t 7) (t 9) fun x21 =>
arithK .add (t 8) x21 fun x22 =>
(o_journey_Days_j2 P T D N K (upd (upd t 68 x20) 8 x22) h)) (
(o_journey_Days_j2 P T D N K (upd t 68 x20) h))
noncomputable def o_journey_Days_j3 (P : Program) (T : Tab) (D : DTab) (N : Nat) {β : Type} (K : AV → Hp → Option β) (t : Tm) (h : Hp) : Option β :=
(o_journey_Days_j1 P T D N K t h)
noncomputable def o_journey_Days_j5 (P : Program) (T : Tab) (D : DTab) (N : Nat) {β : Type} (k : Ex → St → Option β) (t : Tm) (h : Hp) : Option β :=
arithK .add (t 35) (.s (.int .i64 1)) fun x25 =>
k .normal ((upd t 35 x25), h)
noncomputable def o_journey_Days_j6 (P : Program) (T : Tab) (D : DTab) (N : Nat) {β : Type} (k : Ex → St → Option β) (t : Tm) (h : Hp) : Option β :=
(o_journey_Days_j5 P T D N k t h)
noncomputable def o_journey_Days_j7 (P : Program) (T : Tab) (D : DTab) (N : Nat) {β : Type} (k : Ex → St → Option β) (t : Tm) (h : Hp) : Option β :=
(o_journey_Days_j6 P T D N k t h)
noncomputable def o_journey_Days_L4 (P : Program) (T : Tab) (D : DTab) (N : Nat) {β : Type} (t : Tm) (h : Hp) (k : Ex → St → Option β) : Option β :=
arithK .lss (t 35) (t 34) fun x24 =>
condK x24 (
iaK 5 (t 33) (t 35) fun x26 =>
ldK 5 true x26 h fun x27 =>
effK (boxE 5 (.agg [.s (.int .i64 0), .s (.int .i64 0), .s (.int .i64 0), .s (.int .i64 0), .s (.int .i64 0)]) (List.length h)) h fun x28 h29 =>
effK (stE 5 x28 x27 h29) h29 fun x30 h31 =>
faK 0 x28 fun x32 =>
ldK 1 false x32 h31 fun x33 =>
arithK .gtr x33 (t 1) fun x34 =>
condK x34 (
k (.exit 1) ((upd (upd (upd t 36 x24) 11 x28) 39 x34), h31)) (
faK 1 x28 fun x35 =>
ldK 1 false x35 h31 fun x36 =>
eqK P false 3 x36 (.s (.int .i64 7)) h31 fun x37 =>
condK x37 (
faK 0 x28 fun x38 =>
ldK 1 false x38 h31 fun x39 =>
(o_journey_Days_j7 P T D N k (upd (upd (upd (upd (upd t 36 x24) 11 x28) 39 x34) 44 x37) 7 x39) h31)) (
faK 1 x28 fun x40 =>
ldK 1 false x40 h31 fun x41 =>
eqK P false 3 x41 (.s (.int .i64 2)) h31 fun x42 =>
condK x42 (
faK 0 x28 fun x43 =>
ldK 1 false x43 h31 fun x44 =>
(o_journey_Days_j7 P T D N k (upd (upd (upd (upd (upd (upd t 36 x24) 11 x28) 39 x34) 44 x37) 50 x42) 9 x44) h31)) (
faK 1 x28 fun x45 =>
ldK 1 false x45 h31 fun x46 =>
eqK P false 3 x46 (.s (.int .i64 3)) h31 fun x47 =>
condK x47 (
faK 0 x28 fun x48 =>
ldK 1 false x48 h31 fun x49 =>
arithK .add (t 8) x49 fun x50 =>
arithK .sub x50 (t 9) fun x51 =>
(o_journey_Days_j7 P T D N k (upd (upd (upd (upd (upd (upd (upd (upd t 36 x24) 11 x28) 39 x34) 44 x37) 50 x42) 56 x47) 8 x51) 9 (.s (.int .i64 (-1)))) h31)) (
(o_journey_Days_j7 P T D N k (upd (upd (upd (upd (upd (upd t 36 x24) 11 x28) 39 x34) 44 x37) 50 x42) 56 x47) h31)))))) (
k (.exit 1) ((upd t 36 x24), h))
noncomputable def o_journey_Days_aL4 (P : Program) (T : Tab) (D : DTab) (N : Nat) {β : Type} (K : AV → Hp → Option β) (e : Ex) (s : St) : Option β :=
  e.on ((o_journey_Days_j3 P T D N K s.1 s.2))
  (fun i => bif i == 1 then ((o_journey_Days_j3 P T D N K s.1 s.2)) else (none))
  (K (.tup [(s.1 4), (s.1 5), (s.1 6)]) s.2)
noncomputable def o_journey_Days_G (P : Program) (T : Tab) (D : DTab) (N : Nat) {β : Type} (cL4 : St → Option β) (K : AV → Hp → Option β) (a0 : AV) (a1 : AV) (h : Hp) :  Option β :=
callK (T 23) [a0] h fun x1 h2 =>
notK x1 fun x3 =>
condK x3 (
K (.tup [(.s (.int .i64 0)), (.s (.int .i64 0)), (.s (.int .i64 1))]) h2) (
callK (T 24) [a1, (.s (.int .i64 0)), (.s (.int .i64 100000))] h2 fun x4 h5 =>
notK x4 fun x6 =>
condK x6 (
K (.tup [(.s (.int .i64 0)), (.s (.int .i64 0)), (.s (.int .i64 2))]) h5) (
lenK a0 fun x7 =>
eqK P false 3 x7 (.s (.int .i64 0)) h5 fun x8 =>
grpK false x8 h5 (fun k9 =>
iaK 5 a0 (.s (.int .i64 0)) fun x10 =>
faK 0 x10 fun x11 =>
ldK 1 false x11 h5 fun x12 =>
arithK .gtr x12 a1 fun x13 =>
k9 x13 h5) fun x14 h15 =>
condK x14 (
K (.tup [(.s (.int .i64 0)), (.s (.int .i64 0)), (.s (.int .i64 0))]) h15) (
lenK a0 fun x23 =>
cL4 ((upd (upd (upd (upd (upd (upd (upd (upd (upd (upd (upd (upd (tm0 [a0, a1]) 4 (.s (.int .i64 0))) 5 (.s (.int .i64 0))) 6 (.s (.int .i64 0))) 12 x3) 16 x6) 20 x14) 7 a1) 8 (.s (.int .i64 0))) 9 (.s (.int .i64 (-1)))) 33 a0) 34 x23) 35 (.s (.int .i64 0))), h15))))
noncomputable def o_journey_Days (P : Program) (T : Tab) (D : DTab) (N : Nat) {β : Type} (K : AV → Hp → Option β) (a0 : AV) (a1 : AV) (h : Hp) : Option β := o_journey_Days_G P T D N (fun s => iterK (fun s k => o_journey_Days_L4 P T D N s.1 s.2 k) N s (o_journey_Days_aL4 P T D N K)) K a0 a1 h
noncomputable def f_journey_Days_j2 (P : Program) (T : Tab) (D : DTab) (N : Nat) {β : Type} (K : AV → Hp → Option β) (v0 : AV) (v7 : AV) (v8 : AV) (h : Hp) : Option β :=
iaK 5 v0 (.s (.int .i64 0)) fun x16 =>
faK 0 x16 fun x17 =>
ldK 1 false x17 h fun x18 =>
arithK .sub v7 x18 fun x19 =>
K (.tup [x19, v8, (.s (.int .i64 0))]) h
noncomputable def f_journey_Days_j1 (P : Program) (T : Tab) (D : DTab) (N : Nat) {β : Type} (K : AV → Hp → Option β) (v0 : AV) (v7 : AV) (v8 : AV) (v9 : AV) (h : Hp) : Option β :=
arithK .geq v9 (.s (.int .i64 0)) fun x20 =>
condK x20 (
arithK .sub v7 v9 fun x21 =>
arithK .add v8 x21 fun x22 =>
f_journey_Days_j2 P T D N K v0 v7 x22 h) (
f_journey_Days_j2 P T D N K v0 v7 v8 h)
noncomputable def f_journey_Days_j3 (P : Program) (T : Tab) (D : DTab) (N : Nat) {β : Type} (K : AV → Hp → Option β) (v0 : AV) (v7 : AV) (v8 : AV) (v9 : AV) (h : Hp) : Option β :=
f_journey_Days_j1 P T D N K v0 v7 v8 v9 h
noncomputable def f_journey_Days_j5 (P : Program) (T : Tab) (D : DTab) (N : Nat) {β : Type} (xn : AV → AV → AV → AV → AV → AV → AV → AV → Hp → Option β) (x1 : AV → AV → AV → AV → Hp → Option β) (v0 : AV) (v1 : AV) (v7 : AV) (v8 : AV) (v9 : AV) (v33 : AV) (v34 : AV) (v35 : AV) (h : Hp) : Option β :=
arithK .add v35 (.s (.int .i64 1)) fun x25 =>
xn v0 v1 v7 v8 v9 v33 v34 x25 h
noncomputable def f_journey_Days_j6 (P : Program) (T : Tab) (D : DTab) (N : Nat) {β : Type} (xn : AV → AV → AV → AV → AV → AV → AV → AV → Hp → Option β) (x1 : AV → AV → AV → AV → Hp → Option β) (v0 : AV) (v1 : AV) (v7 : AV) (v8 : AV) (v9 : AV) (v33 : AV) (v34 : AV) (v35 : AV) (h : Hp) : Option β :=
f_journey_Days_j5 P T D N xn x1 v0 v1 v7 v8 v9 v33 v34 v35 h
noncomputable def f_journey_Days_j7 (P : Program) (T : Tab) (D : DTab) (N : Nat) {β : Type} (xn : AV → AV → AV → AV → AV → AV → AV → AV → Hp → Option β) (x1 : AV → AV → AV → AV → Hp → Option β) (v0 : AV) (v1 : AV) (v7 : AV) (v8 : AV) (v9 : AV) (v33 : AV) (v34 : AV) (v35 : AV) (h : Hp) : Option β :=
f_journey_Days_j6 P T D N xn x1 v0 v1 v7 v8 v9 v33 v34 v35 h
noncomputable def f_journey_Days_b4 (P : Program) (T : Tab) (D : DTab) (N : Nat) {β : Type} (xn : AV → AV → AV → AV → AV → AV → AV → AV → Hp → Option β) (x1 : AV → AV → AV → AV → Hp → Option β) (v0 : AV) (v1 : AV) (v7 : AV) (v8 : AV) (v9 : AV) (v33 : AV) (v34 : AV) (v35 : AV) (h : Hp) : Option β :=
arithK .lss v35 v34 fun x24 =>
condK x24 (
iaK 5 v33 v35 fun x26 =>
ldK 5 true x26 h fun x27 =>
effK (boxE 5 (.agg [.s (.int .i64 0), .s (.int .i64 0), .s (.int .i64 0), .s (.int .i64 0), .s (.int .i64 0)]) (List.length h)) h fun x28 h29 =>
effK (stE 5 x28 x27 h29) h29 fun x30 h31 =>
faK 0 x28 fun x32 =>
ldK 1 false x32 h31 fun x33 =>
arithK .gtr x33 v1 fun x34 =>
condK x34 (
x1 v0 v7 v8 v9 h31) (
faK 1 x28 fun x35 =>
ldK 1 false x35 h31 fun x36 =>
eqK P false 3 x36 (.s (.int .i64 7)) h31 fun x37 =>
condK x37 (
faK 0 x28 fun x38 =>
ldK 1 false x38 h31 fun x39 =>
f_journey_Days_j7 P T D N xn x1 v0 v1 x39 v8 v9 v33 v34 v35 h31) (
faK 1 x28 fun x40 =>
ldK 1 false x40 h31 fun x41 =>
eqK P false 3 x41 (.s (.int .i64 2)) h31 fun x42 =>
condK x42 (
faK 0 x28 fun x43 =>
ldK 1 false x43 h31 fun x44 =>
f_journey_Days_j7 P T D N xn x1 v0 v1 v7 v8 x44 v33 v34 v35 h31) (
faK 1 x28 fun x45 =>
ldK 1 false x45 h31 fun x46 =>
eqK P false 3 x46 (.s (.int .i64 3)) h31 fun x47 =>
condK x47 (
faK 0 x28 fun x48 =>
ldK 1 false x48 h31 fun x49 =>
arithK .add v8 x49 fun x50 =>
arithK .sub x50 v9 fun x51 =>
f_journey_Days_j7 P T D N xn x1 v0 v1 v7 x51 (.s (.int .i64 (-1))) v33 v34 v35 h31) (
f_journey_Days_j7 P T D N xn x1 v0 v1 v7 v8 v9 v33 v34 v35 h31))))) (
x1 v0 v7 v8 v9 h)
noncomputable def f_journey_Days_L4 (P : Program) (T : Tab) (D : DTab) (N : Nat) {β : Type} (x1 : AV → AV → AV → AV → Hp → Option β) : Nat → AV → AV → AV → AV → AV → AV → AV → AV → Hp → Option β
  | 0 => fun _ _ _ _ _ _ _ _ _ => none
  | n + 1 => fun v0 v1 v7 v8 v9 v33 v34 v35 h => f_journey_Days_b4 P T D N (f_journey_Days_L4 P T D N x1 n) x1 v0 v1 v7 v8 v9 v33 v34 v35 h
noncomputable def f_journey_Days (P : Program) (T : Tab) (D : DTab) (N : Nat) {β : Type} (K : AV → Hp → Option β) (a0 : AV) (a1 : AV) (h : Hp) : Option β :=
callK (T 23) [a0] h fun x1 h2 =>
notK x1 fun x3 =>
condK x3 (
K (.tup [(.s (.int .i64 0)), (.s (.int .i64 0)), (.s (.int .i64 1))]) h2) (
callK (T 24) [a1, (.s (.int .i64 0)), (.s (.int .i64 100000))] h2 fun x4 h5 =>
notK x4 fun x6 =>
condK x6 (
K (.tup [(.s (.int .i64 0)), (.s (.int .i64 0)), (.s (.int .i64 2))]) h5) (
lenK a0 fun x7 =>
eqK P false 3 x7 (.s (.int .i64 0)) h5 fun x8 =>
grpK false x8 h5 (fun k9 =>
iaK 5 a0 (.s (.int .i64 0)) fun x10 =>
faK 0 x10 fun x11 =>
ldK 1 false x11 h5 fun x12 =>
arithK .gtr x12 a1 fun x13 =>
k9 x13 h5) fun x14 h15 =>
condK x14 (
K (.tup [(.s (.int .i64 0)), (.s (.int .i64 0)), (.s (.int .i64 0))]) h15) (
lenK a0 fun x23 =>
f_journey_Days_L4 P T D N (fun w52_0 w52_7 w52_8 w52_9 h => f_journey_Days_j3 P T D N K w52_0 w52_7 w52_8 w52_9 h) N a0 a1 a1 (.s (.int .i64 0)) (.s (.int .i64 (-1))) a0 x23 (.s (.int .i64 0)) h15)))
theorem f_journey_Days_b4_eq (P : Program) (T : Tab) (D : DTab) (N : Nat) {β : Type} (xn : AV → AV → AV → AV → AV → AV → AV → AV → Hp → Option β) (x1 : AV → AV → AV → AV → Hp → Option β) (xd : Nat → St → Option β) (xq : St → Option β) (t : Tm) (h : Hp) : o_journey_Days_L4 P T D N t h (fun (e : Ex) (s : St) => e.on (xn (s.1 0) (s.1 1) (s.1 7) (s.1 8) (s.1 9) (s.1 33) (s.1 34) (s.1 35) s.2) (fun i => (bif i == 1 then x1 (s.1 0) (s.1 7) (s.1 8) (s.1 9) s.2 else (xd i s))) (xq s)) = f_journey_Days_b4 P T D N xn x1 (t 0) (t 1) (t 7) (t 8) (t 9) (t 33) (t 34) (t 35) h := by kernel_rfl
theorem f_journey_Days_L4_eq (P : Program) (T : Tab) (D : DTab) (N : Nat) {β : Type} (A : Ex → St → Option β) (x1 : AV → AV → AV → AV → Hp → Option β) (q1 : ∀ s, A (.exit 1) s = x1 (s.1 0) (s.1 7) (s.1 8) (s.1 9) s.2) : ∀ (n : Nat) (s : St), iterK (fun s k => o_journey_Days_L4 P T D N s.1 s.2 k) n s A = f_journey_Days_L4 P T D N x1 n (s.1 0) (s.1 1) (s.1 7) (s.1 8) (s.1 9) (s.1 33) (s.1 34) (s.1 35) s.2 := by
  intro n
  induction n with
  | zero => intro s; rfl
  | succ n ih =>
    intro s
    have hk : (fun (e : Ex) (s' : St) => Ex.on e (iterK (fun s k => o_journey_Days_L4 P T D N s.1 s.2 k) n s' A) (fun i => A (.exit i) s') (A .ret s')) = (fun (e : Ex) (s : St) => e.on ((f_journey_Days_L4 P T D N x1 n) (s.1 0) (s.1 1) (s.1 7) (s.1 8) (s.1 9) (s.1 33) (s.1 34) (s.1 35) s.2) (fun i => (bif i == 1 then x1 (s.1 0) (s.1 7) (s.1 8) (s.1 9) s.2 else (A (.exit i) s))) (A .ret s)) := by
      funext e s'
      cases e with
      | normal => exact ih s'
      | ret => exact rfl
      | exit i =>
        by_cases r1 : i = 1
        · subst r1; exact q1 s'
        simp only [Ex.on, beq_false_of_ne r1, cond_false]
    show o_journey_Days_L4 P T D N s.1 s.2 (fun (e : Ex) (s' : St) => Ex.on e (iterK (fun s k => o_journey_Days_L4 P T D N s.1 s.2 k) n s' A) (fun i => A (.exit i) s') (A .ret s')) = _
    rw [hk]
    exact f_journey_Days_b4_eq P T D N (f_journey_Days_L4 P T D N x1 n) x1 (fun i s => A (.exit i) s) (fun s => A .ret s) s.1 s.2
theorem f_journey_Days_old_eq (P : Program) (T : Tab) (D : DTab) (N : Nat) {β : Type} (K : AV → Hp → Option β) (a0 : AV) (a1 : AV) (h : Hp) : o_journey_Days P T D N K a0 a1 h = f_journey_Days P T D N K a0 a1 h := by
  have eL4 : (fun s : St => iterK (fun s k => o_journey_Days_L4 P T D N s.1 s.2 k) N s (o_journey_Days_aL4 P T D N K)) = (fun s : St => f_journey_Days_L4 P T D N (fun w52_0 w52_7 w52_8 w52_9 h => f_journey_Days_j3 P T D N K w52_0 w52_7 w52_8 w52_9 h) N (s.1 0) (s.1 1) (s.1 7) (s.1 8) (s.1 9) (s.1 33) (s.1 34) (s.1 35) s.2) := funext fun s => f_journey_Days_L4_eq P T D N (o_journey_Days_aL4 P T D N K) (fun w52_0 w52_7 w52_8 w52_9 h => f_journey_Days_j3 P T D N K w52_0 w52_7 w52_8 w52_9 h) (fun s => rfl) N s
  show o_journey_Days_G P T D N (fun s => iterK (fun s k => o_journey_Days_L4 P T D N s.1 s.2 k) N s (o_journey_Days_aL4 P T D N K)) K a0 a1 h = _
  rw [eL4]
  kernel_rfl
theorem o_journey_Days_run (T : Tab) (D : DTab) (N : Nat) {β : Type} (K : AV → Hp → Option β) (a0 : AV) (a1 : AV) (h : Hp) : runK Tryz.prog T D N [0, 1, 4, 5, 6, 7, 8, 9, 11, 12, 16, 20, 33, 34, 35, 36, 39, 44, 50, 56, 68] Tryz.f8 K [a0, a1] h = o_journey_Days Tryz.prog T D N K a0 a1 h := by kernel_rfl
theorem f_journey_Days_run (T : Tab) (D : DTab) (N : Nat) {β : Type} (K : AV → Hp → Option β) (a0 : AV) (a1 : AV) (h : Hp) : runK Tryz.prog T D N [0, 1, 4, 5, 6, 7, 8, 9, 11, 12, 16, 20, 33, 34, 35, 36, 39, 44, 50, 56, 68] Tryz.f8 K [a0, a1] h = f_journey_Days Tryz.prog T D N K a0 a1 h := (o_journey_Days_run T D N K a0 a1 h).trans (f_journey_Days_old_eq Tryz.prog T D N K a0 a1 h)
noncomputable def f_slices_Clone_Leg (P : Program) (T : Tab) (D : DTab) (N : Nat) {β : Type} (K : AV → Hp → Option β) (a0 : AV) (h : Hp) : Option β :=
eqK P false 22 a0 (.s (.slice none 0 0)) h fun x1 =>
condK x1 (
K (.s (.slice none 0 0)) h) (
effK (bsE 5 [.s (.int .i64 0), .s (.int .i64 0), .s (.int .i64 0), .s (.int .i64 0), .s (.int .i64 0)] 0 [] (List.length h)) h fun x2 h3 =>
effK (appE 5 40 x2 a0 h3 (List.length h3)) h3 fun x4 h5 =>
K x4 h5)
theorem f_slices_Clone_Leg_run (T : Tab) (D : DTab) (N : Nat) {β : Type} (K : AV → Hp → Option β) (a0 : AV) (h : Hp) : runK Tryz.prog T D N [0, 2, 4] Tryz.f9 K [a0] h = f_slices_Clone_Leg Tryz.prog T D N K a0 h := by kernel_rfl
noncomputable def f_journey_Claim (P : Program) (T : Tab) (D : DTab) (N : Nat) {β : Type} (K : AV → Hp → Option β) (a0 : AV) (a1 : AV) (h : Hp) : Option β :=
effK (boxE 4 (.agg [.s (.int .i64 0), .s (.int .i64 0), .s (.int .i64 0), .s (.int .i64 0)]) (List.length h)) h fun x1 h2 =>
callK (T 17) [a0] h2 fun x3 h4 =>
exK x3 0 fun x5 =>
exK x3 1 fun x6 =>
exK x3 2 fun x7 =>
effK (boxE 9 (.agg [.s (.int .i64 0), .s (.int .i64 0), .s (.int .i64 0), .s (.int .i64 0), .s (.int .i64 0), .s (.int .i64 0), .s (.int .i64 0), .s (.bool false), .s (.bool false)]) (List.length h4)) h4 fun x8 h9 =>
effK (stE 9 x8 x5 h9) h9 fun x10 h11 =>
callK (T 27) [a1] h11 fun x12 h13 =>
exK x12 0 fun x14 =>
exK x12 1 fun x15 =>
eqK P true 28 x7 (.s (.int .i64 0)) h13 fun x16 =>
grpK false x16 h13 (fun k17 =>
eqK P true 28 x15 (.s (.int .i64 0)) h13 fun x18 =>
k17 x18 h13) fun x19 h20 =>
condK x19 (
buildK [.s (.int .i64 0), .s (.int .i64 0), .s (.int .i64 0), .s (.int .i64 0)] [] fun x21 =>
effK (stE 4 x1 x21 h20) h20 fun x22 h23 =>
ldK 4 true x1 h23 fun r24 =>
K (.tup [r24, (.s (.int .i64 1))]) h23) (
faK 8 x8 fun x25 =>
ldK 1 false x25 h20 fun x26 =>
notK x26 fun x27 =>
condK x27 (
buildK [.s (.int .i64 0), .s (.int .i64 0), .s (.int .i64 0), .s (.int .i64 0)] [] fun x28 =>
effK (stE 4 x1 x28 h20) h20 fun x29 h30 =>
ldK 4 true x1 h30 fun r31 =>
K (.tup [r31, (.s (.int .i64 11))]) h30) (
faK 0 x8 fun x32 =>
ldK 1 false x32 h20 fun x33 =>
faK 1 x8 fun x34 =>
ldK 1 false x34 h20 fun x35 =>
arithK .sub x33 x35 fun x36 =>
iaK 5 a0 (.s (.int .i64 0)) fun x37 =>
faK 0 x37 fun x38 =>
ldK 1 false x38 h20 fun x39 =>
lenK a0 fun x40 =>
arithK .sub x40 (.s (.int .i64 1)) fun x41 =>
iaK 5 a0 x41 fun x42 =>
faK 0 x42 fun x43 =>
ldK 1 false x43 h20 fun x44 =>
callK (T 28) [a1, (.s (.int .i64 9)), x36, x39, x44] h20 fun x45 h46 =>
exK x45 0 fun x47 =>
exK x45 1 fun x48 =>
faK 3 x8 fun x49 =>
ldK 1 false x49 h46 fun x50 =>
callK (T 29) [x36, x50, x47, (.s (.int .i64 0))] h46 fun x51 h52 =>
exK x51 0 fun x53 =>
exK x51 1 fun x54 =>
effK (stE 4 x1 x53 h52) h52 fun x55 h56 =>
ldK 4 true x1 h56 fun r57 =>
K (.tup [r57, x54]) h56))
theorem f_journey_Claim_run (T : Tab) (D : DTab) (N : Nat) {β : Type} (K : AV → Hp → Option β) (a0 : AV) (a1 : AV) (h : Hp) : runK Tryz.prog T D N [0, 1, 4, 5, 6, 8, 10, 11, 12, 25, 33] Tryz.f11 K [a0, a1] h = f_journey_Claim Tryz.prog T D N K a0 a1 h := by kernel_rfl
noncomputable def o_journey_Messages_j1 (P : Program) (T : Tab) (D : DTab) (N : Nat) {β : Type} (K : AV → Hp → Option β) (t : Tm) (h : Hp) : Option β :=
lenK (t 6) fun x8 =>
arithK .gtr x8 (.s (.int .i64 64)) fun x9 =>
condK x9 (
K (.tup [(.s (.slice none 0 0)), (.s (.int .i64 8))]) h) (
K (.tup [(t 6), (.s (.int .i64 0))]) h)
noncomputable def o_journey_Messages_j3 (P : Program) (T : Tab) (D : DTab) (N : Nat) {β : Type} (k : Ex → St → Option β) (t : Tm) (h : Hp) : Option β :=
arithK .add (t 21) (.s (.int .i64 1)) fun x11 =>
k .normal ((upd t 21 x11), h)
noncomputable def o_journey_Messages_j4 (P : Program) (T : Tab) (D : DTab) (N : Nat) {β : Type} (k : Ex → St → Option β) (t : Tm) (h : Hp) : Option β :=
(o_journey_Messages_j3 P T D N k t h)
noncomputable def o_journey_Messages_j5 (P : Program) (T : Tab) (D : DTab) (N : Nat) {β : Type} (k : Ex → St → Option β) (t : Tm) (h : Hp) : Option β :=
ldK 7 true (t 10) h fun x25 =>
effK (bsE 7 [.s (.int .i64 0), .s (.int .i64 0), .s (.int .i64 0), .s (.int .i64 0), .s (.int .i64 0), .s (.int .i64 0), .s (.int .i64 0)] 1 [(0, x25)] (List.length h)) h fun x26 h27 =>
effK (appE 7 56 (t 6) x26 h27 (List.length h27)) h27 fun x28 h29 =>
(o_journey_Messages_j4 P T D N k (upd t 6 x28) h29)
noncomputable def o_journey_Messages_j6 (P : Program) (T : Tab) (D : DTab) (N : Nat) {β : Type} (k : Ex → St → Option β) (t : Tm) (h : Hp) : Option β :=
(o_journey_Messages_j5 P T D N k t h)
noncomputable def o_journey_Messages_L2 (P : Program) (T : Tab) (D : DTab) (N : Nat) {β : Type} (t : Tm) (h : Hp) (k : Ex → St → Option β) : Option β :=
arithK .lss (t 21) (t 20) fun x10 =>
condK x10 (
iaK 5 (t 19) (t 21) fun x12 =>
ldK 5 true x12 h fun x13 =>
effK (boxE 5 (.agg [.s (.int .i64 0), .s (.int .i64 0), .s (.int .i64 0), .s (.int .i64 0), .s (.int .i64 0)]) (List.length h)) h fun x14 h15 =>
effK (stE 5 x14 x13 h15) h15 fun x16 h17 =>
faK 0 x14 fun x18 =>
ldK 1 false x18 h17 fun x19 =>
buildK [.s (.int .i64 0), .s (.int .i64 0), .s (.int .i64 0), .s (.int .i64 0), .s (.int .i64 0), .s (.int .i64 0), .s (.int .i64 0)] [(some (0, 1), (t 1)), (some (3, 1), x19)] fun x20 =>
effK (boxE 7 (.agg [.s (.int .i64 0), .s (.int .i64 0), .s (.int .i64 0), .s (.int .i64 0), .s (.int .i64 0), .s (.int .i64 0), .s (.int .i64 0)]) (List.length h17)) h17 fun x21 h22 =>
effK (stE 7 x21 x20 h22) h22 fun x23 h24 =>
faK 1 x14 fun x30 =>
ldK 1 false x30 h24 fun x31 =>
eqK P false 3 x31 (.s (.int .i64 1)) h24 fun x32 =>
condK x32 (
faK 2 x14 fun x33 =>
ldK 1 false x33 h24 fun x34 =>
faK 3 x14 fun x35 =>
ldK 1 false x35 h24 fun x36 =>
faK 4 x14 fun x37 =>
ldK 1 false x37 h24 fun x38 =>
faK 1 x21 fun x39 =>
effD (stE 1 x39 (.s (.int .i64 1)) h24) h24 fun x40 h41 e42 =>
faK 4 x21 fun x43 =>
effD (stE 1 x43 x34 h41) h41 fun x44 h45 e46 =>
faK 5 x21 fun x47 =>
effD (stE 1 x47 x36 h45) h45 fun x48 h49 e50 =>
faK 6 x21 fun x51 =>
effD (stE 1 x51 x38 h49) h49 fun x52 h53 e54 =>
bif disjAll [(1, 7), (3, 7), (5, 7), (3, 9), (5, 9), (5, 11)] [([], []), ((idsOf x33), []), ([], []), ((idsOf x35), []), ([], []), ((idsOf x37), []), ([], []), e42, ([], []), e46, ([], []), e50, ([], []), e54] then (
(o_journey_Messages_j6 P T D N k (upd (upd (upd (upd (upd t 22 x10) 9 x14) 10 x21) 30 x31) 31 x32) h53)) else none) (
eqK P false 3 x31 (.s (.int .i64 4)) h24 fun x55 =>
condK x55 (
arithK .add (t 7) (.s (.int .i64 1)) fun x56 =>
faK 3 x14 fun x57 =>
ldK 1 false x57 h24 fun x58 =>
faK 1 x21 fun x59 =>
effD (stE 1 x59 (.s (.int .i64 2)) h24) h24 fun x60 h61 e62 =>
faK 2 x21 fun x63 =>
effD (stE 1 x63 x56 h61) h61 fun x64 h65 e66 =>
faK 5 x21 fun x67 =>
effD (stE 1 x67 x58 h65) h65 fun x68 h69 e70 =>
bif disjAll [(2, 4), (2, 6)] [([], []), ([], []), ((idsOf x57), []), ([], []), e62, ([], []), e66, ([], []), e70] then (
(o_journey_Messages_j6 P T D N k (upd (upd (upd (upd (upd (upd (upd t 22 x10) 9 x14) 10 x21) 30 x31) 31 x32) 43 x55) 7 x56) h69)) else none) (
eqK P false 3 x31 (.s (.int .i64 7)) h24 fun x71 =>
condK x71 (
faK 4 x14 fun x72 =>
ldK 1 false x72 h24 fun x73 =>
faK 1 x21 fun x74 =>
effD (stE 1 x74 (.s (.int .i64 3)) h24) h24 fun x75 h76 e77 =>
faK 6 x21 fun x78 =>
effD (stE 1 x78 x73 h76) h76 fun x79 h80 e81 =>
bif disjAll [(1, 3)] [([], []), ((idsOf x72), []), ([], []), e77, ([], []), e81] then (
ldK 7 true x21 h80 fun x82 =>
effK (bsE 7 [.s (.int .i64 0), .s (.int .i64 0), .s (.int .i64 0), .s (.int .i64 0), .s (.int .i64 0), .s (.int .i64 0), .s (.int .i64 0)] 1 [(0, x82)] (List.length h80)) h80 fun x83 h84 =>
effK (appE 7 56 (t 6) x83 h84 (List.length h84)) h84 fun x85 h86 =>
faK 0 x14 fun x87 =>
ldK 1 false x87 h86 fun x88 =>
buildK [.s (.int .i64 0), .s (.int .i64 0), .s (.int .i64 0), .s (.int .i64 0), .s (.int .i64 0), .s (.int .i64 0), .s (.int .i64 0)] [(some (0, 1), (t 1)), (some (1, 1), (.s (.int .i64 5))), (some (3, 1), x88)] fun x89 =>
effK (stE 7 x21 x89 h86) h86 fun x90 h91 =>
(o_journey_Messages_j6 P T D N k (upd (upd (upd (upd (upd (upd (upd (upd t 22 x10) 9 x14) 10 x21) 30 x31) 31 x32) 43 x55) 53 x71) 6 x85) h91)) else none) (
(o_journey_Messages_j4 P T D N k (upd (upd (upd (upd (upd (upd (upd t 22 x10) 9 x14) 10 x21) 30 x31) 31 x32) 43 x55) 53 x71) h24))))) (
k (.exit 1) ((upd t 22 x10), h))
noncomputable def o_journey_Messages_aL2 (P : Program) (T : Tab) (D : DTab) (N : Nat) {β : Type} (K : AV → Hp → Option β) (e : Ex) (s : St) : Option β :=
  e.on ((o_journey_Messages_j1 P T D N K s.1 s.2))
  (fun i => bif i == 1 then ((o_journey_Messages_j1 P T D N K s.1 s.2)) else (none))
  (K (.tup [(s.1 4), (s.1 5)]) s.2)
noncomputable def o_journey_Messages_G (P : Program) (T : Tab) (D : DTab) (N : Nat) {β : Type} (cL2 : St → Option β) (K : AV → Hp → Option β) (a0 : AV) (a1 : AV) (h : Hp) :  Option β :=
callK (T 23) [a0] h fun x1 h2 =>
notK x1 fun x3 =>
condK x3 (
K (.tup [(.s (.slice none 0 0)), (.s (.int .i64 1))]) h2) (
callK (T 24) [a1, (.s (.int .i64 1)), (.s (.int .i64 1073741824))] h2 fun x4 h5 =>
notK x4 fun x6 =>
condK x6 (
K (.tup [(.s (.slice none 0 0)), (.s (.int .i64 2))]) h5) (
lenK a0 fun x7 =>
cL2 ((upd (upd (upd (upd (upd (upd (upd (upd (upd (tm0 [a0, a1]) 4 (.s (.slice none 0 0))) 5 (.s (.int .i64 0))) 11 x3) 15 x6) 6 (.s (.slice none 0 0))) 7 (.s (.int .i64 0))) 19 a0) 20 x7) 21 (.s (.int .i64 0))), h5)))
noncomputable def o_journey_Messages (P : Program) (T : Tab) (D : DTab) (N : Nat) {β : Type} (K : AV → Hp → Option β) (a0 : AV) (a1 : AV) (h : Hp) : Option β := o_journey_Messages_G P T D N (fun s => iterK (fun s k => o_journey_Messages_L2 P T D N s.1 s.2 k) N s (o_journey_Messages_aL2 P T D N K)) K a0 a1 h
noncomputable def f_journey_Messages_j1 (P : Program) (T : Tab) (D : DTab) (N : Nat) {β : Type} (K : AV → Hp → Option β) (v6 : AV) (h : Hp) : Option β :=
lenK v6 fun x8 =>
arithK .gtr x8 (.s (.int .i64 64)) fun x9 =>
condK x9 (
K (.tup [(.s (.slice none 0 0)), (.s (.int .i64 8))]) h) (
K (.tup [v6, (.s (.int .i64 0))]) h)
noncomputable def f_journey_Messages_j3 (P : Program) (T : Tab) (D : DTab) (N : Nat) {β : Type} (xn : AV → AV → AV → AV → AV → AV → Hp → Option β) (x1 : AV → Hp → Option β) (v1 : AV) (v6 : AV) (v7 : AV) (v19 : AV) (v20 : AV) (v21 : AV) (h : Hp) : Option β :=
arithK .add v21 (.s (.int .i64 1)) fun x11 =>
xn v1 v6 v7 v19 v20 x11 h
noncomputable def f_journey_Messages_j4 (P : Program) (T : Tab) (D : DTab) (N : Nat) {β : Type} (xn : AV → AV → AV → AV → AV → AV → Hp → Option β) (x1 : AV → Hp → Option β) (v1 : AV) (v6 : AV) (v7 : AV) (v19 : AV) (v20 : AV) (v21 : AV) (h : Hp) : Option β :=
f_journey_Messages_j3 P T D N xn x1 v1 v6 v7 v19 v20 v21 h
noncomputable def f_journey_Messages_j5 (P : Program) (T : Tab) (D : DTab) (N : Nat) {β : Type} (xn : AV → AV → AV → AV → AV → AV → Hp → Option β) (x1 : AV → Hp → Option β) (v1 : AV) (v6 : AV) (v7 : AV) (v10 : AV) (v19 : AV) (v20 : AV) (v21 : AV) (h : Hp) : Option β :=
ldK 7 true v10 h fun x25 =>
effK (bsE 7 [.s (.int .i64 0), .s (.int .i64 0), .s (.int .i64 0), .s (.int .i64 0), .s (.int .i64 0), .s (.int .i64 0), .s (.int .i64 0)] 1 [(0, x25)] (List.length h)) h fun x26 h27 =>
effK (appE 7 56 v6 x26 h27 (List.length h27)) h27 fun x28 h29 =>
f_journey_Messages_j4 P T D N xn x1 v1 x28 v7 v19 v20 v21 h29
noncomputable def f_journey_Messages_j6 (P : Program) (T : Tab) (D : DTab) (N : Nat) {β : Type} (xn : AV → AV → AV → AV → AV → AV → Hp → Option β) (x1 : AV → Hp → Option β) (v1 : AV) (v6 : AV) (v7 : AV) (v10 : AV) (v19 : AV) (v20 : AV) (v21 : AV) (h : Hp) : Option β :=
f_journey_Messages_j5 P T D N xn x1 v1 v6 v7 v10 v19 v20 v21 h
noncomputable def f_journey_Messages_b2 (P : Program) (T : Tab) (D : DTab) (N : Nat) {β : Type} (xn : AV → AV → AV → AV → AV → AV → Hp → Option β) (x1 : AV → Hp → Option β) (v1 : AV) (v6 : AV) (v7 : AV) (v19 : AV) (v20 : AV) (v21 : AV) (h : Hp) : Option β :=
arithK .lss v21 v20 fun x10 =>
condK x10 (
iaK 5 v19 v21 fun x12 =>
ldK 5 true x12 h fun x13 =>
effK (boxE 5 (.agg [.s (.int .i64 0), .s (.int .i64 0), .s (.int .i64 0), .s (.int .i64 0), .s (.int .i64 0)]) (List.length h)) h fun x14 h15 =>
effK (stE 5 x14 x13 h15) h15 fun x16 h17 =>
faK 0 x14 fun x18 =>
ldK 1 false x18 h17 fun x19 =>
buildK [.s (.int .i64 0), .s (.int .i64 0), .s (.int .i64 0), .s (.int .i64 0), .s (.int .i64 0), .s (.int .i64 0), .s (.int .i64 0)] [(some (0, 1), v1), (some (3, 1), x19)] fun x20 =>
effK (boxE 7 (.agg [.s (.int .i64 0), .s (.int .i64 0), .s (.int .i64 0), .s (.int .i64 0), .s (.int .i64 0), .s (.int .i64 0), .s (.int .i64 0)]) (List.length h17)) h17 fun x21 h22 =>
effK (stE 7 x21 x20 h22) h22 fun x23 h24 =>
faK 1 x14 fun x30 =>
ldK 1 false x30 h24 fun x31 =>
eqK P false 3 x31 (.s (.int .i64 1)) h24 fun x32 =>
condK x32 (
faK 2 x14 fun x33 =>
ldK 1 false x33 h24 fun x34 =>
faK 3 x14 fun x35 =>
ldK 1 false x35 h24 fun x36 =>
faK 4 x14 fun x37 =>
ldK 1 false x37 h24 fun x38 =>
faK 1 x21 fun x39 =>
effD (stE 1 x39 (.s (.int .i64 1)) h24) h24 fun x40 h41 e42 =>
faK 4 x21 fun x43 =>
effD (stE 1 x43 x34 h41) h41 fun x44 h45 e46 =>
faK 5 x21 fun x47 =>
effD (stE 1 x47 x36 h45) h45 fun x48 h49 e50 =>
faK 6 x21 fun x51 =>
effD (stE 1 x51 x38 h49) h49 fun x52 h53 e54 =>
bif disjAll [(1, 7), (3, 7), (5, 7), (3, 9), (5, 9), (5, 11)] [([], []), ((idsOf x33), []), ([], []), ((idsOf x35), []), ([], []), ((idsOf x37), []), ([], []), e42, ([], []), e46, ([], []), e50, ([], []), e54] then (
f_journey_Messages_j6 P T D N xn x1 v1 v6 v7 x21 v19 v20 v21 h53) else none) (
eqK P false 3 x31 (.s (.int .i64 4)) h24 fun x55 =>
condK x55 (
arithK .add v7 (.s (.int .i64 1)) fun x56 =>
faK 3 x14 fun x57 =>
ldK 1 false x57 h24 fun x58 =>
faK 1 x21 fun x59 =>
effD (stE 1 x59 (.s (.int .i64 2)) h24) h24 fun x60 h61 e62 =>
faK 2 x21 fun x63 =>
effD (stE 1 x63 x56 h61) h61 fun x64 h65 e66 =>
faK 5 x21 fun x67 =>
effD (stE 1 x67 x58 h65) h65 fun x68 h69 e70 =>
bif disjAll [(2, 4), (2, 6)] [([], []), ([], []), ((idsOf x57), []), ([], []), e62, ([], []), e66, ([], []), e70] then (
f_journey_Messages_j6 P T D N xn x1 v1 v6 x56 x21 v19 v20 v21 h69) else none) (
eqK P false 3 x31 (.s (.int .i64 7)) h24 fun x71 =>
condK x71 (
faK 4 x14 fun x72 =>
ldK 1 false x72 h24 fun x73 =>
faK 1 x21 fun x74 =>
effD (stE 1 x74 (.s (.int .i64 3)) h24) h24 fun x75 h76 e77 =>
faK 6 x21 fun x78 =>
effD (stE 1 x78 x73 h76) h76 fun x79 h80 e81 =>
bif disjAll [(1, 3)] [([], []), ((idsOf x72), []), ([], []), e77, ([], []), e81] then (
ldK 7 true x21 h80 fun x82 =>
effK (bsE 7 [.s (.int .i64 0), .s (.int .i64 0), .s (.int .i64 0), .s (.int .i64 0), .s (.int .i64 0), .s (.int .i64 0), .s (.int .i64 0)] 1 [(0, x82)] (List.length h80)) h80 fun x83 h84 =>
effK (appE 7 56 v6 x83 h84 (List.length h84)) h84 fun x85 h86 =>
faK 0 x14 fun x87 =>
ldK 1 false x87 h86 fun x88 =>
buildK [.s (.int .i64 0), .s (.int .i64 0), .s (.int .i64 0), .s (.int .i64 0), .s (.int .i64 0), .s (.int .i64 0), .s (.int .i64 0)] [(some (0, 1), v1), (some (1, 1), (.s (.int .i64 5))), (some (3, 1), x88)] fun x89 =>
effK (stE 7 x21 x89 h86) h86 fun x90 h91 =>
f_journey_Messages_j6 P T D N xn x1 v1 x85 v7 x21 v19 v20 v21 h91) else none) (
f_journey_Messages_j4 P T D N xn x1 v1 v6 v7 v19 v20 v21 h24)))) (
x1 v6 h)
noncomputable def f_journey_Messages_L2 (P : Program) (T : Tab) (D : DTab) (N : Nat) {β : Type} (x1 : AV → Hp → Option β) : Nat → AV → AV → AV → AV → AV → AV → Hp → Option β
  | 0 => fun _ _ _ _ _ _ _ => none
  | n + 1 => fun v1 v6 v7 v19 v20 v21 h => f_journey_Messages_b2 P T D N (f_journey_Messages_L2 P T D N x1 n) x1 v1 v6 v7 v19 v20 v21 h
noncomputable def f_journey_Messages (P : Program) (T : Tab) (D : DTab) (N : Nat) {β : Type} (K : AV → Hp → Option β) (a0 : AV) (a1 : AV) (h : Hp) : Option β :=
callK (T 23) [a0] h fun x1 h2 =>
notK x1 fun x3 =>
condK x3 (
K (.tup [(.s (.slice none 0 0)), (.s (.int .i64 1))]) h2) (
callK (T 24) [a1, (.s (.int .i64 1)), (.s (.int .i64 1073741824))] h2 fun x4 h5 =>
notK x4 fun x6 =>
condK x6 (
K (.tup [(.s (.slice none 0 0)), (.s (.int .i64 2))]) h5) (
lenK a0 fun x7 =>
f_journey_Messages_L2 P T D N (fun w92_6 h => f_journey_Messages_j1 P T D N K w92_6 h) N a1 (.s (.slice none 0 0)) (.s (.int .i64 0)) a0 x7 (.s (.int .i64 0)) h5))
theorem f_journey_Messages_b2_eq (P : Program) (T : Tab) (D : DTab) (N : Nat) {β : Type} (xn : AV → AV → AV → AV → AV → AV → Hp → Option β) (x1 : AV → Hp → Option β) (xd : Nat → St → Option β) (xq : St → Option β) (t : Tm) (h : Hp) : o_journey_Messages_L2 P T D N t h (fun (e : Ex) (s : St) => e.on (xn (s.1 1) (s.1 6) (s.1 7) (s.1 19) (s.1 20) (s.1 21) s.2) (fun i => (bif i == 1 then x1 (s.1 6) s.2 else (xd i s))) (xq s)) = f_journey_Messages_b2 P T D N xn x1 (t 1) (t 6) (t 7) (t 19) (t 20) (t 21) h := by kernel_rfl
theorem f_journey_Messages_L2_eq (P : Program) (T : Tab) (D : DTab) (N : Nat) {β : Type} (A : Ex → St → Option β) (x1 : AV → Hp → Option β) (q1 : ∀ s, A (.exit 1) s = x1 (s.1 6) s.2) : ∀ (n : Nat) (s : St), iterK (fun s k => o_journey_Messages_L2 P T D N s.1 s.2 k) n s A = f_journey_Messages_L2 P T D N x1 n (s.1 1) (s.1 6) (s.1 7) (s.1 19) (s.1 20) (s.1 21) s.2 := by
  intro n
  induction n with
  | zero => intro s; rfl
  | succ n ih =>
    intro s
    have hk : (fun (e : Ex) (s' : St) => Ex.on e (iterK (fun s k => o_journey_Messages_L2 P T D N s.1 s.2 k) n s' A) (fun i => A (.exit i) s') (A .ret s')) = (fun (e : Ex) (s : St) => e.on ((f_journey_Messages_L2 P T D N x1 n) (s.1 1) (s.1 6) (s.1 7) (s.1 19) (s.1 20) (s.1 21) s.2) (fun i => (bif i == 1 then x1 (s.1 6) s.2 else (A (.exit i) s))) (A .ret s)) := by
      funext e s'
      cases e with
      | normal => exact ih s'
      | ret => exact rfl
      | exit i =>
        by_cases r1 : i = 1
        · subst r1; exact q1 s'
        simp only [Ex.on, beq_false_of_ne r1, cond_false]
    show o_journey_Messages_L2 P T D N s.1 s.2 (fun (e : Ex) (s' : St) => Ex.on e (iterK (fun s k => o_journey_Messages_L2 P T D N s.1 s.2 k) n s' A) (fun i => A (.exit i) s') (A .ret s')) = _
    rw [hk]
    exact f_journey_Messages_b2_eq P T D N (f_journey_Messages_L2 P T D N x1 n) x1 (fun i s => A (.exit i) s) (fun s => A .ret s) s.1 s.2
theorem f_journey_Messages_old_eq (P : Program) (T : Tab) (D : DTab) (N : Nat) {β : Type} (K : AV → Hp → Option β) (a0 : AV) (a1 : AV) (h : Hp) : o_journey_Messages P T D N K a0 a1 h = f_journey_Messages P T D N K a0 a1 h := by
  have eL2 : (fun s : St => iterK (fun s k => o_journey_Messages_L2 P T D N s.1 s.2 k) N s (o_journey_Messages_aL2 P T D N K)) = (fun s : St => f_journey_Messages_L2 P T D N (fun w92_6 h => f_journey_Messages_j1 P T D N K w92_6 h) N (s.1 1) (s.1 6) (s.1 7) (s.1 19) (s.1 20) (s.1 21) s.2) := funext fun s => f_journey_Messages_L2_eq P T D N (o_journey_Messages_aL2 P T D N K) (fun w92_6 h => f_journey_Messages_j1 P T D N K w92_6 h) (fun s => rfl) N s
  show o_journey_Messages_G P T D N (fun s => iterK (fun s k => o_journey_Messages_L2 P T D N s.1 s.2 k) N s (o_journey_Messages_aL2 P T D N K)) K a0 a1 h = _
  rw [eL2]
  kernel_rfl
theorem o_journey_Messages_run (T : Tab) (D : DTab) (N : Nat) {β : Type} (K : AV → Hp → Option β) (a0 : AV) (a1 : AV) (h : Hp) : runK Tryz.prog T D N [0, 1, 4, 5, 6, 7, 9, 10, 11, 15, 19, 20, 21, 22, 30, 31, 43, 53, 74] Tryz.f14 K [a0, a1] h = o_journey_Messages Tryz.prog T D N K a0 a1 h := by kernel_rfl
theorem f_journey_Messages_run (T : Tab) (D : DTab) (N : Nat) {β : Type} (K : AV → Hp → Option β) (a0 : AV) (a1 : AV) (h : Hp) : runK Tryz.prog T D N [0, 1, 4, 5, 6, 7, 9, 10, 11, 15, 19, 20, 21, 22, 30, 31, 43, 53, 74] Tryz.f14 K [a0, a1] h = f_journey_Messages Tryz.prog T D N K a0 a1 h := (o_journey_Messages_run T D N K a0 a1 h).trans (f_journey_Messages_old_eq Tryz.prog T D N K a0 a1 h)
noncomputable def o_journey_Run_j1 (P : Program) (T : Tab) (D : DTab) (N : Nat) {β : Type} (K : AV → Hp → Option β) (t : Tm) (h : Hp) : Option β :=
ldK 9 true (t 5) h fun x12 =>
effK (stE 9 (t 2) x12 h) h fun x13 h14 =>
ldK 9 true (t 2) h14 fun r15 =>
K (.tup [r15, (.s (.int .i64 (-1))), (.s (.int .i64 0))]) h14
noncomputable def o_journey_Run_L2 (P : Program) (T : Tab) (D : DTab) (N : Nat) {β : Type} (t : Tm) (h : Hp) (k : Ex → St → Option β) : Option β :=
arithK .lss (t 16) (t 15) fun x16 =>
condK x16 (
iaK 5 (t 14) (t 16) fun x17 =>
ldK 5 true x17 h fun x18 =>
effK (boxE 5 (.agg [.s (.int .i64 0), .s (.int .i64 0), .s (.int .i64 0), .s (.int .i64 0), .s (.int .i64 0)]) (List.length h)) h fun x19 h20 =>
effK (stE 5 x19 x18 h20) h20 fun x21 h22 =>
ldK 9 true (t 5) h22 fun x23 =>
arithK .gtr (t 16) (.s (.int .i64 0)) fun x24 =>
ldK 5 true x19 h22 fun x25 =>
callK (T 34) [x23, x24, (t 6), x25] h22 fun x26 h27 =>
eqK P true 28 x26 (.s (.int .i64 0)) h27 fun x28 =>
condK x28 (
buildK [.s (.int .i64 0), .s (.int .i64 0), .s (.int .i64 0), .s (.int .i64 0), .s (.int .i64 0), .s (.int .i64 0), .s (.int .i64 0), .s (.bool false), .s (.bool false)] [] fun x29 =>
effK (stE 9 (t 2) x29 h27) h27 fun x30 h31 =>
k .ret ((upd (upd (upd (upd (upd (upd (upd t 17 x16) 8 x19) 7 (t 16)) 9 x26) 28 x28) 3 (t 16)) 4 x26), h31)) (
effD (callE (D 35) [] h27 (List.length h27)) h27 fun x32 h33 e34 =>
faK 1 x19 fun x35 =>
ldK 1 false x35 h33 fun x36 =>
ixA 3 8 true x32 x36 fun x37 =>
fldK 1 false 2 x37 fun x38 =>
ldK 5 true x19 h33 fun x39 =>
effD (callVE D x38 [(t 5), x39] h33 (List.length h33)) h33 fun x40 h41 e42 =>
bif disjAll [(0, 2), (0, 5)] [e34, ([], []), ((idsOf x35), []), ([], []), ([], []), ((idsOf x19), []), e42] then (
faK 0 x19 fun x43 =>
ldK 1 false x43 h41 fun x44 =>
arithK .add (t 16) (.s (.int .i64 1)) fun x45 =>
k .normal ((upd (upd (upd (upd (upd (upd (upd t 17 x16) 8 x19) 7 (t 16)) 9 x26) 28 x28) 6 x44) 16 x45), h41)) else none)) (
k (.exit 0) ((upd t 17 x16), h))
noncomputable def o_journey_Run_aL2 (P : Program) (T : Tab) (D : DTab) (N : Nat) {β : Type} (K : AV → Hp → Option β) (e : Ex) (s : St) : Option β :=
  e.on ((o_journey_Run_j1 P T D N K s.1 s.2))
  (fun i => bif i == 0 then ((o_journey_Run_j1 P T D N K s.1 s.2)) else (none))
  (ldK 9 true (s.1 2) s.2 fun r46 =>
K (.tup [r46, (s.1 3), (s.1 4)]) s.2)
noncomputable def o_journey_Run_G (P : Program) (T : Tab) (D : DTab) (N : Nat) {β : Type} (cL2 : St → Option β) (K : AV → Hp → Option β) (a0 : AV) (h : Hp) :  Option β :=
effK (boxE 9 (.agg [.s (.int .i64 0), .s (.int .i64 0), .s (.int .i64 0), .s (.int .i64 0), .s (.int .i64 0), .s (.int .i64 0), .s (.int .i64 0), .s (.bool false), .s (.bool false)]) (List.length h)) h fun x1 h2 =>
lenK a0 fun x3 =>
arithK .gtr x3 (.s (.int .i64 128)) fun x4 =>
condK x4 (
buildK [.s (.int .i64 0), .s (.int .i64 0), .s (.int .i64 0), .s (.int .i64 0), .s (.int .i64 0), .s (.int .i64 0), .s (.int .i64 0), .s (.bool false), .s (.bool false)] [] fun x5 =>
effK (stE 9 x1 x5 h2) h2 fun x6 h7 =>
ldK 9 true x1 h7 fun r8 =>
K (.tup [r8, (.s (.int .i64 (-1))), (.s (.int .i64 8))]) h7) (
effK (boxE 9 (.agg [.s (.int .i64 0), .s (.int .i64 0), .s (.int .i64 0), .s (.int .i64 0), .s (.int .i64 0), .s (.int .i64 0), .s (.int .i64 0), .s (.bool false), .s (.bool false)]) (List.length h2)) h2 fun x9 h10 =>
lenK a0 fun x11 =>
cL2 ((upd (upd (upd (upd (upd (upd (upd (upd (upd (tm0 [a0]) 2 x1) 3 (.s (.int .i64 0))) 4 (.s (.int .i64 0))) 12 x4) 5 x9) 6 (.s (.int .i64 0))) 14 a0) 15 x11) 16 (.s (.int .i64 0))), h10))
noncomputable def o_journey_Run (P : Program) (T : Tab) (D : DTab) (N : Nat) {β : Type} (K : AV → Hp → Option β) (a0 : AV) (h : Hp) : Option β := o_journey_Run_G P T D N (fun s => iterK (fun s k => o_journey_Run_L2 P T D N s.1 s.2 k) N s (o_journey_Run_aL2 P T D N K)) K a0 h
noncomputable def f_journey_Run_j1 (P : Program) (T : Tab) (D : DTab) (N : Nat) {β : Type} (K : AV → Hp → Option β) (v2 : AV) (v5 : AV) (h : Hp) : Option β :=
ldK 9 true v5 h fun x12 =>
effK (stE 9 v2 x12 h) h fun x13 h14 =>
ldK 9 true v2 h14 fun r15 =>
K (.tup [r15, (.s (.int .i64 (-1))), (.s (.int .i64 0))]) h14
noncomputable def f_journey_Run_b2 (P : Program) (T : Tab) (D : DTab) (N : Nat) {β : Type} (xn : AV → AV → AV → AV → AV → AV → Hp → Option β) (x0 : AV → AV → Hp → Option β) (xr : AV → AV → AV → Hp → Option β) (v2 : AV) (v5 : AV) (v6 : AV) (v14 : AV) (v15 : AV) (v16 : AV) (h : Hp) : Option β :=
arithK .lss v16 v15 fun x16 =>
condK x16 (
iaK 5 v14 v16 fun x17 =>
ldK 5 true x17 h fun x18 =>
effK (boxE 5 (.agg [.s (.int .i64 0), .s (.int .i64 0), .s (.int .i64 0), .s (.int .i64 0), .s (.int .i64 0)]) (List.length h)) h fun x19 h20 =>
effK (stE 5 x19 x18 h20) h20 fun x21 h22 =>
ldK 9 true v5 h22 fun x23 =>
arithK .gtr v16 (.s (.int .i64 0)) fun x24 =>
ldK 5 true x19 h22 fun x25 =>
callK (T 34) [x23, x24, v6, x25] h22 fun x26 h27 =>
eqK P true 28 x26 (.s (.int .i64 0)) h27 fun x28 =>
condK x28 (
buildK [.s (.int .i64 0), .s (.int .i64 0), .s (.int .i64 0), .s (.int .i64 0), .s (.int .i64 0), .s (.int .i64 0), .s (.int .i64 0), .s (.bool false), .s (.bool false)] [] fun x29 =>
effK (stE 9 v2 x29 h27) h27 fun x30 h31 =>
xr v2 v16 x26 h31) (
effD (callE (D 35) [] h27 (List.length h27)) h27 fun x32 h33 e34 =>
faK 1 x19 fun x35 =>
ldK 1 false x35 h33 fun x36 =>
ixA 3 8 true x32 x36 fun x37 =>
fldK 1 false 2 x37 fun x38 =>
ldK 5 true x19 h33 fun x39 =>
effD (callVE D x38 [v5, x39] h33 (List.length h33)) h33 fun x40 h41 e42 =>
bif disjAll [(0, 2), (0, 5)] [e34, ([], []), ((idsOf x35), []), ([], []), ([], []), ((idsOf x19), []), e42] then (
faK 0 x19 fun x43 =>
ldK 1 false x43 h41 fun x44 =>
arithK .add v16 (.s (.int .i64 1)) fun x45 =>
xn v2 v5 x44 v14 v15 x45 h41) else none)) (
x0 v2 v5 h)
noncomputable def f_journey_Run_L2 (P : Program) (T : Tab) (D : DTab) (N : Nat) {β : Type} (x0 : AV → AV → Hp → Option β) (xr : AV → AV → AV → Hp → Option β) : Nat → AV → AV → AV → AV → AV → AV → Hp → Option β
  | 0 => fun _ _ _ _ _ _ _ => none
  | n + 1 => fun v2 v5 v6 v14 v15 v16 h => f_journey_Run_b2 P T D N (f_journey_Run_L2 P T D N x0 xr n) x0 xr v2 v5 v6 v14 v15 v16 h
noncomputable def f_journey_Run (P : Program) (T : Tab) (D : DTab) (N : Nat) {β : Type} (K : AV → Hp → Option β) (a0 : AV) (h : Hp) : Option β :=
effK (boxE 9 (.agg [.s (.int .i64 0), .s (.int .i64 0), .s (.int .i64 0), .s (.int .i64 0), .s (.int .i64 0), .s (.int .i64 0), .s (.int .i64 0), .s (.bool false), .s (.bool false)]) (List.length h)) h fun x1 h2 =>
lenK a0 fun x3 =>
arithK .gtr x3 (.s (.int .i64 128)) fun x4 =>
condK x4 (
buildK [.s (.int .i64 0), .s (.int .i64 0), .s (.int .i64 0), .s (.int .i64 0), .s (.int .i64 0), .s (.int .i64 0), .s (.int .i64 0), .s (.bool false), .s (.bool false)] [] fun x5 =>
effK (stE 9 x1 x5 h2) h2 fun x6 h7 =>
ldK 9 true x1 h7 fun r8 =>
K (.tup [r8, (.s (.int .i64 (-1))), (.s (.int .i64 8))]) h7) (
effK (boxE 9 (.agg [.s (.int .i64 0), .s (.int .i64 0), .s (.int .i64 0), .s (.int .i64 0), .s (.int .i64 0), .s (.int .i64 0), .s (.int .i64 0), .s (.bool false), .s (.bool false)]) (List.length h2)) h2 fun x9 h10 =>
lenK a0 fun x11 =>
f_journey_Run_L2 P T D N (fun w46_2 w46_5 h => f_journey_Run_j1 P T D N K w46_2 w46_5 h) (fun w47_2 w47_3 w47_4 h => ldK 9 true w47_2 h fun r48 =>
K (.tup [r48, w47_3, w47_4]) h) N x1 x9 (.s (.int .i64 0)) a0 x11 (.s (.int .i64 0)) h10)
theorem f_journey_Run_b2_eq (P : Program) (T : Tab) (D : DTab) (N : Nat) {β : Type} (xn : AV → AV → AV → AV → AV → AV → Hp → Option β) (x0 : AV → AV → Hp → Option β) (xr : AV → AV → AV → Hp → Option β) (xd : Nat → St → Option β) (xq : St → Option β) (t : Tm) (h : Hp) : o_journey_Run_L2 P T D N t h (fun (e : Ex) (s : St) => e.on (xn (s.1 2) (s.1 5) (s.1 6) (s.1 14) (s.1 15) (s.1 16) s.2) (fun i => (bif i == 0 then x0 (s.1 2) (s.1 5) s.2 else (xd i s))) (xr (s.1 2) (s.1 3) (s.1 4) s.2)) = f_journey_Run_b2 P T D N xn x0 xr (t 2) (t 5) (t 6) (t 14) (t 15) (t 16) h := by kernel_rfl
theorem f_journey_Run_L2_eq (P : Program) (T : Tab) (D : DTab) (N : Nat) {β : Type} (A : Ex → St → Option β) (x0 : AV → AV → Hp → Option β) (xr : AV → AV → AV → Hp → Option β) (q0 : ∀ s, A (.exit 0) s = x0 (s.1 2) (s.1 5) s.2) (qr : ∀ s, A .ret s = xr (s.1 2) (s.1 3) (s.1 4) s.2) : ∀ (n : Nat) (s : St), iterK (fun s k => o_journey_Run_L2 P T D N s.1 s.2 k) n s A = f_journey_Run_L2 P T D N x0 xr n (s.1 2) (s.1 5) (s.1 6) (s.1 14) (s.1 15) (s.1 16) s.2 := by
  intro n
  induction n with
  | zero => intro s; rfl
  | succ n ih =>
    intro s
    have hk : (fun (e : Ex) (s' : St) => Ex.on e (iterK (fun s k => o_journey_Run_L2 P T D N s.1 s.2 k) n s' A) (fun i => A (.exit i) s') (A .ret s')) = (fun (e : Ex) (s : St) => e.on ((f_journey_Run_L2 P T D N x0 xr n) (s.1 2) (s.1 5) (s.1 6) (s.1 14) (s.1 15) (s.1 16) s.2) (fun i => (bif i == 0 then x0 (s.1 2) (s.1 5) s.2 else (A (.exit i) s))) (xr (s.1 2) (s.1 3) (s.1 4) s.2)) := by
      funext e s'
      cases e with
      | normal => exact ih s'
      | ret => exact qr s'
      | exit i =>
        by_cases r0 : i = 0
        · subst r0; exact q0 s'
        simp only [Ex.on, beq_false_of_ne r0, cond_false]
    show o_journey_Run_L2 P T D N s.1 s.2 (fun (e : Ex) (s' : St) => Ex.on e (iterK (fun s k => o_journey_Run_L2 P T D N s.1 s.2 k) n s' A) (fun i => A (.exit i) s') (A .ret s')) = _
    rw [hk]
    exact f_journey_Run_b2_eq P T D N (f_journey_Run_L2 P T D N x0 xr n) x0 xr (fun i s => A (.exit i) s) (fun s => A .ret s) s.1 s.2
theorem f_journey_Run_old_eq (P : Program) (T : Tab) (D : DTab) (N : Nat) {β : Type} (K : AV → Hp → Option β) (a0 : AV) (h : Hp) : o_journey_Run P T D N K a0 h = f_journey_Run P T D N K a0 h := by
  have eL2 : (fun s : St => iterK (fun s k => o_journey_Run_L2 P T D N s.1 s.2 k) N s (o_journey_Run_aL2 P T D N K)) = (fun s : St => f_journey_Run_L2 P T D N (fun w46_2 w46_5 h => f_journey_Run_j1 P T D N K w46_2 w46_5 h) (fun w47_2 w47_3 w47_4 h => ldK 9 true w47_2 h fun r48 =>
K (.tup [r48, w47_3, w47_4]) h) N (s.1 2) (s.1 5) (s.1 6) (s.1 14) (s.1 15) (s.1 16) s.2) := funext fun s => f_journey_Run_L2_eq P T D N (o_journey_Run_aL2 P T D N K) (fun w46_2 w46_5 h => f_journey_Run_j1 P T D N K w46_2 w46_5 h) (fun w47_2 w47_3 w47_4 h => ldK 9 true w47_2 h fun r48 =>
K (.tup [r48, w47_3, w47_4]) h) (fun s => rfl) (fun s => rfl) N s
  show o_journey_Run_G P T D N (fun s => iterK (fun s k => o_journey_Run_L2 P T D N s.1 s.2 k) N s (o_journey_Run_aL2 P T D N K)) K a0 h = _
  rw [eL2]
  kernel_rfl
theorem o_journey_Run_run (T : Tab) (D : DTab) (N : Nat) {β : Type} (K : AV → Hp → Option β) (a0 : AV) (h : Hp) : runK Tryz.prog T D N [0, 2, 3, 4, 5, 6, 7, 8, 9, 12, 14, 15, 16, 17, 28] Tryz.f17 K [a0] h = o_journey_Run Tryz.prog T D N K a0 h := by kernel_rfl
theorem f_journey_Run_run (T : Tab) (D : DTab) (N : Nat) {β : Type} (K : AV → Hp → Option β) (a0 : AV) (h : Hp) : runK Tryz.prog T D N [0, 2, 3, 4, 5, 6, 7, 8, 9, 12, 14, 15, 16, 17, 28] Tryz.f17 K [a0] h = f_journey_Run Tryz.prog T D N K a0 h := (o_journey_Run_run T D N K a0 h).trans (f_journey_Run_old_eq Tryz.prog T D N K a0 h)
noncomputable def f_document_Of (P : Program) (T : Tab) (D : DTab) (N : Nat) {β : Type} (K : AV → Hp → Option β) (a0 : AV) (a1 : AV) (h : Hp) : Option β :=
effK (boxE 7 (.agg [.s (.int .i64 0), .s (.int .i64 0), .s (.int .i64 0), .s (.int .i64 0), .s (.int .i64 0), .s (.int .i64 0), .s (.int .i64 0)]) (List.length h)) h fun x1 h2 =>
callK (T 36) [a0] h2 fun x3 h4 =>
exK x3 0 fun x5 =>
exK x3 1 fun x6 =>
eqK P true 28 x6 (.s (.int .i64 0)) h4 fun x7 =>
condK x7 (
buildK [.s (.int .i64 0), .s (.int .i64 0), .s (.int .i64 0), .s (.int .i64 0), .s (.int .i64 0), .s (.int .i64 0), .s (.int .i64 0)] [] fun x8 =>
effK (stE 7 x1 x8 h4) h4 fun x9 h10 =>
ldK 7 true x1 h10 fun r11 =>
K (.tup [r11, x6]) h10) (
arithK .lss a1 (.s (.int .i64 1)) fun x12 =>
grpK false x12 h4 (fun k13 =>
arithK .gtr a1 (.s (.int .i64 1073741824)) fun x14 =>
k13 x14 h4) fun x15 h16 =>
condK x15 (
buildK [.s (.int .i64 0), .s (.int .i64 0), .s (.int .i64 0), .s (.int .i64 0), .s (.int .i64 0), .s (.int .i64 0), .s (.int .i64 0)] [] fun x17 =>
effK (stE 7 x1 x17 h16) h16 fun x18 h19 =>
ldK 7 true x1 h19 fun r20 =>
K (.tup [r20, (.s (.int .i64 2))]) h19) (
callK (T 37) [x5, a1] h16 fun x21 h22 =>
effK (stE 7 x1 x21 h22) h22 fun x23 h24 =>
ldK 7 true x1 h24 fun r25 =>
K (.tup [r25, (.s (.int .i64 0))]) h24))
theorem f_document_Of_run (T : Tab) (D : DTab) (N : Nat) {β : Type} (K : AV → Hp → Option β) (a0 : AV) (a1 : AV) (h : Hp) : runK Tryz.prog T D N [0, 1, 4, 5, 6, 7, 13, 18] Tryz.f18 K [a0, a1] h = f_document_Of Tryz.prog T D N K a0 a1 h := by kernel_rfl
noncomputable def f_law45_example (P : Program) (T : Tab) (D : DTab) (N : Nat) {β : Type} (K : AV → Hp → Option β) (h : Hp) : Option β :=
buildK [.s (.int .i64 0), .s (.int .i64 0), .s (.int .i64 0), .s (.int .i64 0), .s (.int .i64 0)] [(some (0, 1), (.s (.int .i64 10))), (some (1, 1), (.s (.int .i64 1))), (some (2, 1), (.s (.int .i64 1))), (some (3, 1), (.s (.int .i64 2))), (some (4, 1), (.s (.int .i64 1000)))] fun x1 =>
buildK [.s (.int .i64 0), .s (.int .i64 0), .s (.int .i64 0), .s (.int .i64 0), .s (.int .i64 0)] [(some (0, 1), (.s (.int .i64 12))), (some (1, 1), (.s (.int .i64 2))), (some (2, 1), (.s (.int .i64 5)))] fun x2 =>
buildK [.s (.int .i64 0), .s (.int .i64 0), .s (.int .i64 0), .s (.int .i64 0), .s (.int .i64 0)] [(some (0, 1), (.s (.int .i64 15))), (some (1, 1), (.s (.int .i64 3)))] fun x3 =>
buildK [.s (.int .i64 0), .s (.int .i64 0), .s (.int .i64 0), .s (.int .i64 0), .s (.int .i64 0)] [(some (0, 1), (.s (.int .i64 16))), (some (1, 1), (.s (.int .i64 4))), (some (3, 1), (.s (.int .i64 3)))] fun x4 =>
buildK [.s (.int .i64 0), .s (.int .i64 0), .s (.int .i64 0), .s (.int .i64 0), .s (.int .i64 0)] [(some (0, 1), (.s (.int .i64 20))), (some (1, 1), (.s (.int .i64 7))), (some (2, 1), (.s (.int .i64 3))), (some (4, 1), (.s (.int .i64 950)))] fun x5 =>
effK (bsE 5 [.s (.int .i64 0), .s (.int .i64 0), .s (.int .i64 0), .s (.int .i64 0), .s (.int .i64 0)] 5 [(0, x1), (1, x2), (2, x3), (3, x4), (4, x5)] (List.length h)) h fun x6 h7 =>
K x6 h7
theorem f_law45_example_run (T : Tab) (D : DTab) (N : Nat) {β : Type} (K : AV → Hp → Option β) (h : Hp) : runK Tryz.prog T D N [0] Tryz.f19 K [] h = f_law45_example Tryz.prog T D N K  h := by kernel_rfl
noncomputable def o_journey_Transit_j1 (P : Program) (T : Tab) (D : DTab) (N : Nat) {β : Type} (K : AV → Hp → Option β) (t : Tm) (h : Hp) : Option β :=
K (.tup [(t 6), (.s (.int .i64 0))]) h
noncomputable def o_journey_Transit_L2 (P : Program) (T : Tab) (D : DTab) (N : Nat) {β : Type} (t : Tm) (h : Hp) (k : Ex → St → Option β) : Option β :=
arithK .lss (t 22) (t 21) fun x9 =>
condK x9 (
iaK 1 (t 20) (t 22) fun x10 =>
ldK 1 false x10 h fun x11 =>
callK (T 40) [x11, (t 1)] h fun x12 h13 =>
fldK 1 false 4 x12 fun x14 =>
arithK .add (t 6) x14 fun x15 =>
arithK .add (t 22) (.s (.int .i64 1)) fun x16 =>
k .normal ((upd (upd (upd (upd t 23 x9) 8 x11) 6 x15) 22 x16), h13)) (
k (.exit 1) ((upd t 23 x9), h))
noncomputable def o_journey_Transit_aL2 (P : Program) (T : Tab) (D : DTab) (N : Nat) {β : Type} (K : AV → Hp → Option β) (e : Ex) (s : St) : Option β :=
  e.on ((o_journey_Transit_j1 P T D N K s.1 s.2))
  (fun i => bif i == 1 then ((o_journey_Transit_j1 P T D N K s.1 s.2)) else (none))
  (K (.tup [(s.1 4), (s.1 5)]) s.2)
noncomputable def o_journey_Transit_G (P : Program) (T : Tab) (D : DTab) (N : Nat) {β : Type} (cL2 : St → Option β) (K : AV → Hp → Option β) (a0 : AV) (a1 : AV) (h : Hp) :  Option β :=
lenK a0 fun x1 =>
arithK .gtr x1 (.s (.int .i64 16)) fun x2 =>
condK x2 (
K (.tup [(.s (.int .i64 0)), (.s (.int .i64 8))]) h) (
callK (T 38) [a0, (.fn 39 [])] h fun x3 h4 =>
condK x3 (
K (.tup [(.s (.int .i64 0)), (.s (.int .i64 1))]) h4) (
callK (T 24) [a1, (.s (.int .i64 0)), (.s (.int .i64 100000))] h4 fun x5 h6 =>
notK x5 fun x7 =>
condK x7 (
K (.tup [(.s (.int .i64 0)), (.s (.int .i64 2))]) h6) (
lenK a0 fun x8 =>
cL2 ((upd (upd (upd (upd (upd (upd (upd (upd (upd (tm0 [a0, a1]) 4 (.s (.int .i64 0))) 5 (.s (.int .i64 0))) 9 x2) 13 x3) 16 x7) 6 (.s (.int .i64 0))) 20 a0) 21 x8) 22 (.s (.int .i64 0))), h6))))
noncomputable def o_journey_Transit (P : Program) (T : Tab) (D : DTab) (N : Nat) {β : Type} (K : AV → Hp → Option β) (a0 : AV) (a1 : AV) (h : Hp) : Option β := o_journey_Transit_G P T D N (fun s => iterK (fun s k => o_journey_Transit_L2 P T D N s.1 s.2 k) N s (o_journey_Transit_aL2 P T D N K)) K a0 a1 h
noncomputable def f_journey_Transit_j1 (P : Program) (T : Tab) (D : DTab) (N : Nat) {β : Type} (K : AV → Hp → Option β) (v6 : AV) (h : Hp) : Option β :=
K (.tup [v6, (.s (.int .i64 0))]) h
noncomputable def f_journey_Transit_b2 (P : Program) (T : Tab) (D : DTab) (N : Nat) {β : Type} (xn : AV → AV → AV → AV → AV → Hp → Option β) (x1 : AV → Hp → Option β) (v1 : AV) (v6 : AV) (v20 : AV) (v21 : AV) (v22 : AV) (h : Hp) : Option β :=
arithK .lss v22 v21 fun x9 =>
condK x9 (
iaK 1 v20 v22 fun x10 =>
ldK 1 false x10 h fun x11 =>
callK (T 40) [x11, v1] h fun x12 h13 =>
fldK 1 false 4 x12 fun x14 =>
arithK .add v6 x14 fun x15 =>
arithK .add v22 (.s (.int .i64 1)) fun x16 =>
xn v1 x15 v20 v21 x16 h13) (
x1 v6 h)
noncomputable def f_journey_Transit_L2 (P : Program) (T : Tab) (D : DTab) (N : Nat) {β : Type} (x1 : AV → Hp → Option β) : Nat → AV → AV → AV → AV → AV → Hp → Option β
  | 0 => fun _ _ _ _ _ _ => none
  | n + 1 => fun v1 v6 v20 v21 v22 h => f_journey_Transit_b2 P T D N (f_journey_Transit_L2 P T D N x1 n) x1 v1 v6 v20 v21 v22 h
noncomputable def f_journey_Transit (P : Program) (T : Tab) (D : DTab) (N : Nat) {β : Type} (K : AV → Hp → Option β) (a0 : AV) (a1 : AV) (h : Hp) : Option β :=
lenK a0 fun x1 =>
arithK .gtr x1 (.s (.int .i64 16)) fun x2 =>
condK x2 (
K (.tup [(.s (.int .i64 0)), (.s (.int .i64 8))]) h) (
callK (T 38) [a0, (.fn 39 [])] h fun x3 h4 =>
condK x3 (
K (.tup [(.s (.int .i64 0)), (.s (.int .i64 1))]) h4) (
callK (T 24) [a1, (.s (.int .i64 0)), (.s (.int .i64 100000))] h4 fun x5 h6 =>
notK x5 fun x7 =>
condK x7 (
K (.tup [(.s (.int .i64 0)), (.s (.int .i64 2))]) h6) (
lenK a0 fun x8 =>
f_journey_Transit_L2 P T D N (fun w17_6 h => f_journey_Transit_j1 P T D N K w17_6 h) N a1 (.s (.int .i64 0)) a0 x8 (.s (.int .i64 0)) h6)))
theorem f_journey_Transit_b2_eq (P : Program) (T : Tab) (D : DTab) (N : Nat) {β : Type} (xn : AV → AV → AV → AV → AV → Hp → Option β) (x1 : AV → Hp → Option β) (xd : Nat → St → Option β) (xq : St → Option β) (t : Tm) (h : Hp) : o_journey_Transit_L2 P T D N t h (fun (e : Ex) (s : St) => e.on (xn (s.1 1) (s.1 6) (s.1 20) (s.1 21) (s.1 22) s.2) (fun i => (bif i == 1 then x1 (s.1 6) s.2 else (xd i s))) (xq s)) = f_journey_Transit_b2 P T D N xn x1 (t 1) (t 6) (t 20) (t 21) (t 22) h := by kernel_rfl
theorem f_journey_Transit_L2_eq (P : Program) (T : Tab) (D : DTab) (N : Nat) {β : Type} (A : Ex → St → Option β) (x1 : AV → Hp → Option β) (q1 : ∀ s, A (.exit 1) s = x1 (s.1 6) s.2) : ∀ (n : Nat) (s : St), iterK (fun s k => o_journey_Transit_L2 P T D N s.1 s.2 k) n s A = f_journey_Transit_L2 P T D N x1 n (s.1 1) (s.1 6) (s.1 20) (s.1 21) (s.1 22) s.2 := by
  intro n
  induction n with
  | zero => intro s; rfl
  | succ n ih =>
    intro s
    have hk : (fun (e : Ex) (s' : St) => Ex.on e (iterK (fun s k => o_journey_Transit_L2 P T D N s.1 s.2 k) n s' A) (fun i => A (.exit i) s') (A .ret s')) = (fun (e : Ex) (s : St) => e.on ((f_journey_Transit_L2 P T D N x1 n) (s.1 1) (s.1 6) (s.1 20) (s.1 21) (s.1 22) s.2) (fun i => (bif i == 1 then x1 (s.1 6) s.2 else (A (.exit i) s))) (A .ret s)) := by
      funext e s'
      cases e with
      | normal => exact ih s'
      | ret => exact rfl
      | exit i =>
        by_cases r1 : i = 1
        · subst r1; exact q1 s'
        simp only [Ex.on, beq_false_of_ne r1, cond_false]
    show o_journey_Transit_L2 P T D N s.1 s.2 (fun (e : Ex) (s' : St) => Ex.on e (iterK (fun s k => o_journey_Transit_L2 P T D N s.1 s.2 k) n s' A) (fun i => A (.exit i) s') (A .ret s')) = _
    rw [hk]
    exact f_journey_Transit_b2_eq P T D N (f_journey_Transit_L2 P T D N x1 n) x1 (fun i s => A (.exit i) s) (fun s => A .ret s) s.1 s.2
theorem f_journey_Transit_old_eq (P : Program) (T : Tab) (D : DTab) (N : Nat) {β : Type} (K : AV → Hp → Option β) (a0 : AV) (a1 : AV) (h : Hp) : o_journey_Transit P T D N K a0 a1 h = f_journey_Transit P T D N K a0 a1 h := by
  have eL2 : (fun s : St => iterK (fun s k => o_journey_Transit_L2 P T D N s.1 s.2 k) N s (o_journey_Transit_aL2 P T D N K)) = (fun s : St => f_journey_Transit_L2 P T D N (fun w17_6 h => f_journey_Transit_j1 P T D N K w17_6 h) N (s.1 1) (s.1 6) (s.1 20) (s.1 21) (s.1 22) s.2) := funext fun s => f_journey_Transit_L2_eq P T D N (o_journey_Transit_aL2 P T D N K) (fun w17_6 h => f_journey_Transit_j1 P T D N K w17_6 h) (fun s => rfl) N s
  show o_journey_Transit_G P T D N (fun s => iterK (fun s k => o_journey_Transit_L2 P T D N s.1 s.2 k) N s (o_journey_Transit_aL2 P T D N K)) K a0 a1 h = _
  rw [eL2]
  kernel_rfl
theorem o_journey_Transit_run (T : Tab) (D : DTab) (N : Nat) {β : Type} (K : AV → Hp → Option β) (a0 : AV) (a1 : AV) (h : Hp) : runK Tryz.prog T D N [0, 1, 4, 5, 6, 8, 9, 13, 16, 20, 21, 22, 23] Tryz.f20 K [a0, a1] h = o_journey_Transit Tryz.prog T D N K a0 a1 h := by kernel_rfl
theorem f_journey_Transit_run (T : Tab) (D : DTab) (N : Nat) {β : Type} (K : AV → Hp → Option β) (a0 : AV) (a1 : AV) (h : Hp) : runK Tryz.prog T D N [0, 1, 4, 5, 6, 8, 9, 13, 16, 20, 21, 22, 23] Tryz.f20 K [a0, a1] h = f_journey_Transit Tryz.prog T D N K a0 a1 h := (o_journey_Transit_run T D N K a0 a1 h).trans (f_journey_Transit_old_eq Tryz.prog T D N K a0 a1 h)
noncomputable def f_law45_table (P : Program) (T : Tab) (D : DTab) (N : Nat) {β : Type} (K : AV → Hp → Option β) (h : Hp) : Option β :=
buildK [.s (.int .i64 0), .s (.int .i64 0), .s (.int .i64 0), .s (.int .i64 0)] [(some (0, 1), (.s (.int .i64 0))), (some (1, 1), (.s (.int .i64 9))), (some (2, 1), (.s (.int .i64 1))), (some (3, 1), (.s (.int .i64 1000)))] fun x1 =>
effK (bsE 4 [.s (.int .i64 0), .s (.int .i64 0), .s (.int .i64 0), .s (.int .i64 0)] 1 [(0, x1)] (List.length h)) h fun x2 h3 =>
K x2 h3
theorem f_law45_table_run (T : Tab) (D : DTab) (N : Nat) {β : Type} (K : AV → Hp → Option β) (h : Hp) : runK Tryz.prog T D N [0] Tryz.f21 K [] h = f_law45_table Tryz.prog T D N K  h := by kernel_rfl
noncomputable def f_journey_right (P : Program) (T : Tab) (D : DTab) (N : Nat) {β : Type} (K : AV → Hp → Option β) (a0 : AV) (h : Hp) : Option β :=
callK (T 17) [a0] h fun x1 h2 =>
exK x1 0 fun x3 =>
exK x1 1 fun x4 =>
exK x1 2 fun x5 =>
effK (boxE 9 (.agg [.s (.int .i64 0), .s (.int .i64 0), .s (.int .i64 0), .s (.int .i64 0), .s (.int .i64 0), .s (.int .i64 0), .s (.int .i64 0), .s (.bool false), .s (.bool false)]) (List.length h2)) h2 fun x6 h7 =>
effK (stE 9 x6 x3 h7) h7 fun x8 h9 =>
eqK P false 28 x5 (.s (.int .i64 0)) h9 fun x10 =>
K x10 h9
theorem f_journey_right_run (T : Tab) (D : DTab) (N : Nat) {β : Type} (K : AV → Hp → Option β) (a0 : AV) (h : Hp) : runK Tryz.prog T D N [0, 2, 5] Tryz.f23 K [a0] h = f_journey_right Tryz.prog T D N K a0 h := by kernel_rfl
noncomputable def f_journey_in (P : Program) (T : Tab) (D : DTab) (N : Nat) {β : Type} (K : AV → Hp → Option β) (a0 : AV) (a1 : AV) (a2 : AV) (h : Hp) : Option β :=
arithK .geq a0 a1 fun x1 =>
grpK true x1 h (fun k2 =>
arithK .leq a0 a2 fun x3 =>
k2 x3 h) fun x4 h5 =>
K x4 h5
theorem f_journey_in_run (T : Tab) (D : DTab) (N : Nat) {β : Type} (K : AV → Hp → Option β) (a0 : AV) (a1 : AV) (a2 : AV) (h : Hp) : runK Tryz.prog T D N [0, 1, 2, 6] Tryz.f24 K [a0, a1, a2] h = f_journey_in Tryz.prog T D N K a0 a1 a2 h := by kernel_rfl
noncomputable def o_season_Check_j1 (P : Program) (T : Tab) (D : DTab) (N : Nat) {β : Type} (K : AV → Hp → Option β) (t : Tm) (h : Hp) : Option β :=
K (.tup [(.s (.int .i64 (-1))), (.s (.int .i64 0))]) h
noncomputable def o_season_Check_L2 (P : Program) (T : Tab) (D : DTab) (N : Nat) {β : Type} (t : Tm) (h : Hp) (k : Ex → St → Option β) : Option β :=
arithK .lss (t 11) (t 10) fun x4 =>
condK x4 (
iaK 4 (t 9) (t 11) fun x5 =>
ldK 4 true x5 h fun x6 =>
effK (boxE 4 (.agg [.s (.int .i64 0), .s (.int .i64 0), .s (.int .i64 0), .s (.int .i64 0)]) (List.length h)) h fun x7 h8 =>
effK (stE 4 x7 x6 h8) h8 fun x9 h10 =>
faK 0 x7 fun x11 =>
ldK 1 false x11 h10 fun x12 =>
callK (T 41) [x12, (.s (.int .i64 0)), (.s (.int .i64 100000))] h10 fun x13 h14 =>
notK x13 fun x15 =>
grpK false x15 h14 (fun k16 =>
faK 1 x7 fun x17 =>
ldK 1 false x17 h14 fun x18 =>
callK (T 41) [x18, (.s (.int .i64 1)), (.s (.int .i64 9))] h14 fun x19 h20 =>
notK x19 fun x21 =>
k16 x21 h20) fun x22 h23 =>
grpK false x22 h23 (fun k24 =>
faK 2 x7 fun x25 =>
ldK 1 false x25 h23 fun x26 =>
callK (T 41) [x26, (.s (.int .i64 1)), (.s (.int .i64 12))] h23 fun x27 h28 =>
notK x27 fun x29 =>
k24 x29 h28) fun x30 h31 =>
grpK false x30 h31 (fun k32 =>
faK 3 x7 fun x33 =>
ldK 1 false x33 h31 fun x34 =>
callK (T 41) [x34, (.s (.int .i64 0)), (.s (.int .i64 10000))] h31 fun x35 h36 =>
notK x35 fun x37 =>
k32 x37 h36) fun x38 h39 =>
condK x38 (
k .ret ((upd (upd (upd (upd (upd (upd t 12 x4) 5 x7) 4 (t 11)) 16 x38) 2 (t 11)) 3 (.s (.int .i64 2))), h39)) (
arithK .gtr (t 11) (.s (.int .i64 0)) fun x40 =>
grpK true x40 h39 (fun k41 =>
arithK .sub (t 11) (.s (.int .i64 1)) fun x42 =>
iaK 4 (t 0) x42 fun x43 =>
ldK 4 true x43 h39 fun x44 =>
ldK 4 true x7 h39 fun x45 =>
callK (T 42) [x44, x45] h39 fun x46 h47 =>
notK x46 fun x48 =>
k41 x48 h47) fun x49 h50 =>
condK x49 (
k .ret ((upd (upd (upd (upd (upd (upd (upd t 12 x4) 5 x7) 4 (t 11)) 16 x38) 40 x49) 2 (t 11)) 3 (.s (.int .i64 5))), h50)) (
arithK .add (t 11) (.s (.int .i64 1)) fun x51 =>
k .normal ((upd (upd (upd (upd (upd (upd t 12 x4) 5 x7) 4 (t 11)) 16 x38) 40 x49) 11 x51), h50)))) (
k (.exit 0) ((upd t 12 x4), h))
noncomputable def o_season_Check_aL2 (P : Program) (T : Tab) (D : DTab) (N : Nat) {β : Type} (K : AV → Hp → Option β) (e : Ex) (s : St) : Option β :=
  e.on ((o_season_Check_j1 P T D N K s.1 s.2))
  (fun i => bif i == 0 then ((o_season_Check_j1 P T D N K s.1 s.2)) else (none))
  (K (.tup [(s.1 2), (s.1 3)]) s.2)
noncomputable def o_season_Check_G (P : Program) (T : Tab) (D : DTab) (N : Nat) {β : Type} (cL2 : St → Option β) (K : AV → Hp → Option β) (a0 : AV) (h : Hp) :  Option β :=
lenK a0 fun x1 =>
arithK .gtr x1 (.s (.int .i64 128)) fun x2 =>
condK x2 (
K (.tup [(.s (.int .i64 (-1))), (.s (.int .i64 8))]) h) (
lenK a0 fun x3 =>
cL2 ((upd (upd (upd (upd (upd (upd (tm0 [a0]) 2 (.s (.int .i64 0))) 3 (.s (.int .i64 0))) 8 x2) 9 a0) 10 x3) 11 (.s (.int .i64 0))), h))
noncomputable def o_season_Check (P : Program) (T : Tab) (D : DTab) (N : Nat) {β : Type} (K : AV → Hp → Option β) (a0 : AV) (h : Hp) : Option β := o_season_Check_G P T D N (fun s => iterK (fun s k => o_season_Check_L2 P T D N s.1 s.2 k) N s (o_season_Check_aL2 P T D N K)) K a0 h
noncomputable def f_season_Check_j1 (P : Program) (T : Tab) (D : DTab) (N : Nat) {β : Type} (K : AV → Hp → Option β) (h : Hp) : Option β :=
K (.tup [(.s (.int .i64 (-1))), (.s (.int .i64 0))]) h
noncomputable def f_season_Check_b2 (P : Program) (T : Tab) (D : DTab) (N : Nat) {β : Type} (xn : AV → AV → AV → AV → Hp → Option β) (x0 : Hp → Option β) (xr : AV → AV → Hp → Option β) (v0 : AV) (v9 : AV) (v10 : AV) (v11 : AV) (h : Hp) : Option β :=
arithK .lss v11 v10 fun x4 =>
condK x4 (
iaK 4 v9 v11 fun x5 =>
ldK 4 true x5 h fun x6 =>
effK (boxE 4 (.agg [.s (.int .i64 0), .s (.int .i64 0), .s (.int .i64 0), .s (.int .i64 0)]) (List.length h)) h fun x7 h8 =>
effK (stE 4 x7 x6 h8) h8 fun x9 h10 =>
faK 0 x7 fun x11 =>
ldK 1 false x11 h10 fun x12 =>
callK (T 41) [x12, (.s (.int .i64 0)), (.s (.int .i64 100000))] h10 fun x13 h14 =>
notK x13 fun x15 =>
grpK false x15 h14 (fun k16 =>
faK 1 x7 fun x17 =>
ldK 1 false x17 h14 fun x18 =>
callK (T 41) [x18, (.s (.int .i64 1)), (.s (.int .i64 9))] h14 fun x19 h20 =>
notK x19 fun x21 =>
k16 x21 h20) fun x22 h23 =>
grpK false x22 h23 (fun k24 =>
faK 2 x7 fun x25 =>
ldK 1 false x25 h23 fun x26 =>
callK (T 41) [x26, (.s (.int .i64 1)), (.s (.int .i64 12))] h23 fun x27 h28 =>
notK x27 fun x29 =>
k24 x29 h28) fun x30 h31 =>
grpK false x30 h31 (fun k32 =>
faK 3 x7 fun x33 =>
ldK 1 false x33 h31 fun x34 =>
callK (T 41) [x34, (.s (.int .i64 0)), (.s (.int .i64 10000))] h31 fun x35 h36 =>
notK x35 fun x37 =>
k32 x37 h36) fun x38 h39 =>
condK x38 (
xr v11 (.s (.int .i64 2)) h39) (
arithK .gtr v11 (.s (.int .i64 0)) fun x40 =>
grpK true x40 h39 (fun k41 =>
arithK .sub v11 (.s (.int .i64 1)) fun x42 =>
iaK 4 v0 x42 fun x43 =>
ldK 4 true x43 h39 fun x44 =>
ldK 4 true x7 h39 fun x45 =>
callK (T 42) [x44, x45] h39 fun x46 h47 =>
notK x46 fun x48 =>
k41 x48 h47) fun x49 h50 =>
condK x49 (
xr v11 (.s (.int .i64 5)) h50) (
arithK .add v11 (.s (.int .i64 1)) fun x51 =>
xn v0 v9 v10 x51 h50))) (
x0 h)
noncomputable def f_season_Check_L2 (P : Program) (T : Tab) (D : DTab) (N : Nat) {β : Type} (x0 : Hp → Option β) (xr : AV → AV → Hp → Option β) : Nat → AV → AV → AV → AV → Hp → Option β
  | 0 => fun _ _ _ _ _ => none
  | n + 1 => fun v0 v9 v10 v11 h => f_season_Check_b2 P T D N (f_season_Check_L2 P T D N x0 xr n) x0 xr v0 v9 v10 v11 h
noncomputable def f_season_Check (P : Program) (T : Tab) (D : DTab) (N : Nat) {β : Type} (K : AV → Hp → Option β) (a0 : AV) (h : Hp) : Option β :=
lenK a0 fun x1 =>
arithK .gtr x1 (.s (.int .i64 128)) fun x2 =>
condK x2 (
K (.tup [(.s (.int .i64 (-1))), (.s (.int .i64 8))]) h) (
lenK a0 fun x3 =>
f_season_Check_L2 P T D N (fun h => f_season_Check_j1 P T D N K h) (fun w53_2 w53_3 h => K (.tup [w53_2, w53_3]) h) N a0 a0 x3 (.s (.int .i64 0)) h)
theorem f_season_Check_b2_eq (P : Program) (T : Tab) (D : DTab) (N : Nat) {β : Type} (xn : AV → AV → AV → AV → Hp → Option β) (x0 : Hp → Option β) (xr : AV → AV → Hp → Option β) (xd : Nat → St → Option β) (xq : St → Option β) (t : Tm) (h : Hp) : o_season_Check_L2 P T D N t h (fun (e : Ex) (s : St) => e.on (xn (s.1 0) (s.1 9) (s.1 10) (s.1 11) s.2) (fun i => (bif i == 0 then x0 s.2 else (xd i s))) (xr (s.1 2) (s.1 3) s.2)) = f_season_Check_b2 P T D N xn x0 xr (t 0) (t 9) (t 10) (t 11) h := by kernel_rfl
theorem f_season_Check_L2_eq (P : Program) (T : Tab) (D : DTab) (N : Nat) {β : Type} (A : Ex → St → Option β) (x0 : Hp → Option β) (xr : AV → AV → Hp → Option β) (q0 : ∀ s, A (.exit 0) s = x0 s.2) (qr : ∀ s, A .ret s = xr (s.1 2) (s.1 3) s.2) : ∀ (n : Nat) (s : St), iterK (fun s k => o_season_Check_L2 P T D N s.1 s.2 k) n s A = f_season_Check_L2 P T D N x0 xr n (s.1 0) (s.1 9) (s.1 10) (s.1 11) s.2 := by
  intro n
  induction n with
  | zero => intro s; rfl
  | succ n ih =>
    intro s
    have hk : (fun (e : Ex) (s' : St) => Ex.on e (iterK (fun s k => o_season_Check_L2 P T D N s.1 s.2 k) n s' A) (fun i => A (.exit i) s') (A .ret s')) = (fun (e : Ex) (s : St) => e.on ((f_season_Check_L2 P T D N x0 xr n) (s.1 0) (s.1 9) (s.1 10) (s.1 11) s.2) (fun i => (bif i == 0 then x0 s.2 else (A (.exit i) s))) (xr (s.1 2) (s.1 3) s.2)) := by
      funext e s'
      cases e with
      | normal => exact ih s'
      | ret => exact qr s'
      | exit i =>
        by_cases r0 : i = 0
        · subst r0; exact q0 s'
        simp only [Ex.on, beq_false_of_ne r0, cond_false]
    show o_season_Check_L2 P T D N s.1 s.2 (fun (e : Ex) (s' : St) => Ex.on e (iterK (fun s k => o_season_Check_L2 P T D N s.1 s.2 k) n s' A) (fun i => A (.exit i) s') (A .ret s')) = _
    rw [hk]
    exact f_season_Check_b2_eq P T D N (f_season_Check_L2 P T D N x0 xr n) x0 xr (fun i s => A (.exit i) s) (fun s => A .ret s) s.1 s.2
theorem f_season_Check_old_eq (P : Program) (T : Tab) (D : DTab) (N : Nat) {β : Type} (K : AV → Hp → Option β) (a0 : AV) (h : Hp) : o_season_Check P T D N K a0 h = f_season_Check P T D N K a0 h := by
  have eL2 : (fun s : St => iterK (fun s k => o_season_Check_L2 P T D N s.1 s.2 k) N s (o_season_Check_aL2 P T D N K)) = (fun s : St => f_season_Check_L2 P T D N (fun h => f_season_Check_j1 P T D N K h) (fun w53_2 w53_3 h => K (.tup [w53_2, w53_3]) h) N (s.1 0) (s.1 9) (s.1 10) (s.1 11) s.2) := funext fun s => f_season_Check_L2_eq P T D N (o_season_Check_aL2 P T D N K) (fun h => f_season_Check_j1 P T D N K h) (fun w53_2 w53_3 h => K (.tup [w53_2, w53_3]) h) (fun s => rfl) (fun s => rfl) N s
  show o_season_Check_G P T D N (fun s => iterK (fun s k => o_season_Check_L2 P T D N s.1 s.2 k) N s (o_season_Check_aL2 P T D N K)) K a0 h = _
  rw [eL2]
  kernel_rfl
theorem o_season_Check_run (T : Tab) (D : DTab) (N : Nat) {β : Type} (K : AV → Hp → Option β) (a0 : AV) (h : Hp) : runK Tryz.prog T D N [0, 2, 3, 4, 5, 8, 9, 10, 11, 12, 16, 40] Tryz.f27 K [a0] h = o_season_Check Tryz.prog T D N K a0 h := by kernel_rfl
theorem f_season_Check_run (T : Tab) (D : DTab) (N : Nat) {β : Type} (K : AV → Hp → Option β) (a0 : AV) (h : Hp) : runK Tryz.prog T D N [0, 2, 3, 4, 5, 8, 9, 10, 11, 12, 16, 40] Tryz.f27 K [a0] h = f_season_Check Tryz.prog T D N K a0 h := (o_season_Check_run T D N K a0 h).trans (f_season_Check_old_eq Tryz.prog T D N K a0 h)
noncomputable def f_season_Allowed (P : Program) (T : Tab) (D : DTab) (N : Nat) {β : Type} (K : AV → Hp → Option β) (a0 : AV) (a1 : AV) (a2 : AV) (a3 : AV) (a4 : AV) (h : Hp) : Option β :=
callK (T 43) [a0] h fun x1 h2 =>
notK x1 fun x3 =>
condK x3 (
K (.tup [(.s (.int .i64 0)), (.s (.int .i64 1))]) h2) (
callK (T 41) [a1, (.s (.int .i64 1)), (.s (.int .i64 9))] h2 fun x4 h5 =>
notK x4 fun x6 =>
grpK false x6 h5 (fun k7 =>
callK (T 41) [a3, (.s (.int .i64 0)), (.s (.int .i64 100000))] h5 fun x8 h9 =>
notK x8 fun x10 =>
k7 x10 h9) fun x11 h12 =>
grpK false x11 h12 (fun k13 =>
callK (T 41) [a4, (.s (.int .i64 0)), (.s (.int .i64 100000))] h12 fun x14 h15 =>
notK x14 fun x16 =>
k13 x16 h15) fun x17 h18 =>
grpK false x17 h18 (fun k19 =>
callK (T 41) [a2, (.s (.int .i64 0)), (.s (.int .i64 10737418240000))] h18 fun x20 h21 =>
notK x20 fun x22 =>
k19 x22 h21) fun x23 h24 =>
condK x23 (
K (.tup [(.s (.int .i64 0)), (.s (.int .i64 2))]) h24) (
arithK .gtr a3 a4 fun x25 =>
condK x25 (
K (.tup [(.s (.int .i64 0)), (.s (.int .i64 5))]) h24) (
callK (T 45) [a0, a1, a3, a4] h24 fun x26 h27 =>
callK (T 44) [a2, x26, (.s (.int .i64 1000000))] h27 fun x28 h29 =>
exK x28 0 fun x30 =>
exK x28 1 fun x31 =>
exK x28 2 fun x32 =>
eqK P true 28 x32 (.s (.int .i64 0)) h29 fun x33 =>
condK x33 (
K (.tup [a2, (.s (.int .i64 0))]) h29) (
minK x30 a2 fun x34 =>
K (.tup [x34, (.s (.int .i64 0))]) h29))))
theorem f_season_Allowed_run (T : Tab) (D : DTab) (N : Nat) {β : Type} (K : AV → Hp → Option β) (a0 : AV) (a1 : AV) (a2 : AV) (a3 : AV) (a4 : AV) (h : Hp) : runK Tryz.prog T D N [0, 1, 2, 3, 4, 10, 11, 12, 14, 15, 19, 38, 54] Tryz.f28 K [a0, a1, a2, a3, a4] h = f_season_Allowed Tryz.prog T D N K a0 a1 a2 a3 a4 h := by kernel_rfl
noncomputable def f_loss_Split (P : Program) (T : Tab) (D : DTab) (N : Nat) {β : Type} (K : AV → Hp → Option β) (a0 : AV) (a1 : AV) (a2 : AV) (a3 : AV) (h : Hp) : Option β :=
effK (boxE 4 (.agg [.s (.int .i64 0), .s (.int .i64 0), .s (.int .i64 0), .s (.int .i64 0)]) (List.length h)) h fun x1 h2 =>
effK (bsE 1 [.s (.int .i64 0)] 4 [(0, a0), (1, a1), (2, a2), (3, a3)] (List.length h2)) h2 fun x3 h4 =>
callK (T 46) [x3] h4 fun x5 h6 =>
notK x5 fun x7 =>
condK x7 (
buildK [.s (.int .i64 0), .s (.int .i64 0), .s (.int .i64 0), .s (.int .i64 0)] [] fun x8 =>
effK (stE 4 x1 x8 h6) h6 fun x9 h10 =>
ldK 4 true x1 h10 fun r11 =>
K (.tup [r11, (.s (.int .i64 2))]) h10) (
callK (T 47) [a0, a1, a2, a3] h6 fun x12 h13 =>
effK (stE 4 x1 x12 h13) h13 fun x14 h15 =>
ldK 4 true x1 h15 fun r16 =>
K (.tup [r16, (.s (.int .i64 0))]) h15)
theorem f_loss_Split_run (T : Tab) (D : DTab) (N : Nat) {β : Type} (K : AV → Hp → Option β) (a0 : AV) (a1 : AV) (a2 : AV) (a3 : AV) (h : Hp) : runK Tryz.prog T D N [0, 1, 2, 3, 8, 9, 16] Tryz.f29 K [a0, a1, a2, a3] h = f_loss_Split Tryz.prog T D N K a0 a1 a2 a3 h := by kernel_rfl
noncomputable def f_journey_fault (P : Program) (T : Tab) (D : DTab) (N : Nat) {β : Type} (K : AV → Hp → Option β) (a0 : AV) (a1 : AV) (a2 : AV) (a3 : AV) (h : Hp) : Option β :=
effK (boxE 9 a0 (List.length h)) h fun x1 h2 =>
effK (boxE 5 a3 (List.length h2)) h2 fun x3 h4 =>
faK 0 x3 fun x5 =>
ldK 1 false x5 h4 fun x6 =>
effD (callE (D 24) [x6, (.s (.int .i64 0)), (.s (.int .i64 100000))] h4 (List.length h4)) h4 fun x7 h8 e9 =>
notK x7 fun x10 =>
gopD (wB x10 false) h8 (fun k => faK 1 x3 fun v => k v h8 ([], [])) fun x11 h12 e13 =>
gopD (wB x10 false) h12 (fun k => ldK 1 false x11 h12 fun v => k v h12 ((idsOf x11), [])) fun x14 h15 e16 =>
gopD (wB x10 false) h15 (fun k => effD (callE (D 24) [x14, (.s (.int .i64 1)), (.s (.int .i64 7))] h15 (List.length h15)) h15 k) fun x17 h18 e19 =>
gopD (wB x10 false) h18 (fun k => notK x17 fun v => k v h18 ([], [])) fun x20 h21 e22 =>
pickK x10 (.s (.bool true)) x20 fun x23 =>
gopD (wB x23 false) h21 (fun k => effD (callE (D 35) [] h21 (List.length h21)) h21 k) fun x24 h25 e26 =>
gopD (wB x23 false) h25 (fun k => faK 1 x3 fun v => k v h25 ([], [])) fun x27 h28 e29 =>
gopD (wB x23 false) h28 (fun k => ldK 1 false x27 h28 fun v => k v h28 ((idsOf x27), [])) fun x30 h31 e32 =>
gopD (wB x23 false) h31 (fun k => ixA 3 8 true x24 x30 fun v => k v h31 ([], [])) fun x33 h34 e35 =>
gopD (wB x23 false) h34 (fun k => fldK 1 false 0 x33 fun v => k v h34 ([], [])) fun x36 h37 e38 =>
gopD (wB x23 false) h37 (fun k => ldK 5 true x3 h37 fun v => k v h37 ((idsOf x3), [])) fun x39 h40 e41 =>
gopD (wB x23 false) h40 (fun k => effD (callVE D x36 [x39] h40 (List.length h40)) h40 k) fun x42 h43 e44 =>
gopD (wB x23 false) h43 (fun k => notK x42 fun v => k v h43 ([], [])) fun x45 h46 e47 =>
pickK x23 (.s (.bool true)) x45 fun x48 =>
bif disjAll [(11, 13), (11, 16)] [([], []), ((idsOf x5), []), e9, ([], []), ([], []), e13, e16, e19, e22, ([], []), ([], []), e26, e29, e32, e35, e38, e41, e44, e47, ([], [])] then (
condK x48 (
K (.s (.int .i64 2)) h46) (
faK 0 x3 fun x49 =>
ldK 1 false x49 h46 fun x50 =>
arithK .lss x50 a2 fun x51 =>
condK x51 (
K (.s (.int .i64 5)) h46) (
faK 1 x3 fun x52 =>
ldK 1 false x52 h46 fun x53 =>
eqK P false 3 x53 (.s (.int .i64 1)) h46 fun x54 =>
eqK P false 4 a1 x54 h46 fun x55 =>
gopD (wB x55 false) h46 (fun k => faK 8 x1 fun v => k v h46 ([], [])) fun x56 h57 e58 =>
gopD (wB x55 false) h57 (fun k => ldK 1 false x56 h57 fun v => k v h57 ((idsOf x56), [])) fun x59 h60 e61 =>
pickK x55 (.s (.bool true)) x59 fun x62 =>
gopD (wB x62 false) h60 (fun k => effD (callE (D 35) [] h60 (List.length h60)) h60 k) fun x63 h64 e65 =>
gopD (wB x62 false) h64 (fun k => faK 1 x3 fun v => k v h64 ([], [])) fun x66 h67 e68 =>
gopD (wB x62 false) h67 (fun k => ldK 1 false x66 h67 fun v => k v h67 ((idsOf x66), [])) fun x69 h70 e71 =>
gopD (wB x62 false) h70 (fun k => ixA 3 8 true x63 x69 fun v => k v h70 ([], [])) fun x72 h73 e74 =>
gopD (wB x62 false) h73 (fun k => fldK 1 false 1 x72 fun v => k v h73 ([], [])) fun x75 h76 e77 =>
gopD (wB x62 false) h76 (fun k => ldK 9 true x1 h76 fun v => k v h76 ((idsOf x1), [])) fun x78 h79 e80 =>
gopD (wB x62 false) h79 (fun k => effD (callVE D x75 [x78] h79 (List.length h79)) h79 k) fun x81 h82 e83 =>
pickK x62 (.s (.bool true)) x81 fun x84 =>
bif disjAll [(10, 12), (10, 15)] [([], []), ([], []), ((idsOf x52), []), ([], []), ([], []), ([], []), e58, e61, ([], []), ([], []), e65, e68, e71, e74, e77, e80, e83, ([], []), ([], [])] then (
condK x84 (
K (.s (.int .i64 11)) h82) (
faK 1 x3 fun x85 =>
ldK 1 false x85 h82 fun x86 =>
eqK P false 3 x86 (.s (.int .i64 4)) h82 fun x87 =>
grpK true x87 h82 (fun k88 =>
faK 3 x3 fun x89 =>
ldK 1 false x89 h82 fun x90 =>
faK 5 x1 fun x91 =>
ldK 1 false x91 h82 fun x92 =>
eqK P false 3 x90 x92 h82 fun x93 =>
k88 x93 h82) fun x94 h95 =>
grpK false x94 h95 (fun k96 =>
faK 1 x3 fun x97 =>
ldK 1 false x97 h95 fun x98 =>
eqK P false 3 x98 (.s (.int .i64 7)) h95 fun x99 =>
grpK true x99 h95 (fun k100 =>
faK 2 x3 fun x101 =>
ldK 1 false x101 h95 fun x102 =>
faK 6 x1 fun x103 =>
ldK 1 false x103 h95 fun x104 =>
eqK P true 3 x102 x104 h95 fun x105 =>
k100 x105 h95) fun x106 h107 =>
k96 x106 h107) fun x108 h109 =>
condK x108 (
K (.s (.int .i64 10)) h109) (
faK 1 x3 fun x110 =>
ldK 1 false x110 h109 fun x111 =>
arithK .geq x111 (.s (.int .i64 5)) fun x112 =>
grpK true x112 h109 (fun k113 =>
faK 4 x3 fun x114 =>
ldK 1 false x114 h109 fun x115 =>
faK 4 x1 fun x116 =>
ldK 1 false x116 h109 fun x117 =>
arithK .gtr x115 x117 fun x118 =>
k113 x118 h109) fun x119 h120 =>
condK x119 (
K (.s (.int .i64 17)) h120) (
K (.s (.int .i64 0)) h120)))) else none))) else none
theorem f_journey_fault_run (T : Tab) (D : DTab) (N : Nat) {β : Type} (K : AV → Hp → Option β) (a0 : AV) (a1 : AV) (a2 : AV) (a3 : AV) (h : Hp) : runK Tryz.prog T D N [0, 1, 2, 3, 4, 7, 8, 28, 29, 34, 53, 76] Tryz.f34 K [a0, a1, a2, a3] h = f_journey_fault Tryz.prog T D N K a0 a1 a2 a3 h := by kernel_rfl
noncomputable def f_journey_table (P : Program) (T : Tab) (D : DTab) (N : Nat) {β : Type} (K : AV → Hp → Option β) (h : Hp) : Option β :=
effK (boxE 24 (.agg [.s .nilFunc, .s .nilFunc, .s .nilFunc, .s .nilFunc, .s .nilFunc, .s .nilFunc, .s .nilFunc, .s .nilFunc, .s .nilFunc, .s .nilFunc, .s .nilFunc, .s .nilFunc, .s .nilFunc, .s .nilFunc, .s .nilFunc, .s .nilFunc, .s .nilFunc, .s .nilFunc, .s .nilFunc, .s .nilFunc, .s .nilFunc, .s .nilFunc, .s .nilFunc, .s .nilFunc]) (List.length h)) h fun x1 h2 =>
buildK [.s .nilFunc, .s .nilFunc, .s .nilFunc] [(some (0, 1), (.fn 57 [])), (some (1, 1), (.fn 54 [])), (some (2, 1), (.fn 59 []))] fun x3 =>
buildK [.s .nilFunc, .s .nilFunc, .s .nilFunc] [(some (0, 1), (.fn 60 [])), (some (1, 1), (.fn 55 [])), (some (2, 1), (.fn 61 []))] fun x4 =>
buildK [.s .nilFunc, .s .nilFunc, .s .nilFunc] [(some (0, 1), (.fn 62 [])), (some (1, 1), (.fn 63 [])), (some (2, 1), (.fn 64 []))] fun x5 =>
buildK [.s .nilFunc, .s .nilFunc, .s .nilFunc] [(some (0, 1), (.fn 65 [])), (some (1, 1), (.fn 54 [])), (some (2, 1), (.fn 66 []))] fun x6 =>
buildK [.s .nilFunc, .s .nilFunc, .s .nilFunc] [(some (0, 1), (.fn 56 [])), (some (1, 1), (.fn 54 [])), (some (2, 1), (.fn 67 []))] fun x7 =>
buildK [.s .nilFunc, .s .nilFunc, .s .nilFunc] [(some (0, 1), (.fn 56 [])), (some (1, 1), (.fn 54 [])), (some (2, 1), (.fn 68 []))] fun x8 =>
buildK [.s .nilFunc, .s .nilFunc, .s .nilFunc] [(some (0, 1), (.fn 69 [])), (some (1, 1), (.fn 55 [])), (some (2, 1), (.fn 70 []))] fun x9 =>
buildK [.s .nilFunc, .s .nilFunc, .s .nilFunc, .s .nilFunc, .s .nilFunc, .s .nilFunc, .s .nilFunc, .s .nilFunc, .s .nilFunc, .s .nilFunc, .s .nilFunc, .s .nilFunc, .s .nilFunc, .s .nilFunc, .s .nilFunc, .s .nilFunc, .s .nilFunc, .s .nilFunc, .s .nilFunc, .s .nilFunc, .s .nilFunc, .s .nilFunc, .s .nilFunc, .s .nilFunc] [(some (3, 3), x3), (some (6, 3), x4), (some (9, 3), x5), (some (12, 3), x6), (some (15, 3), x7), (some (18, 3), x8), (some (21, 3), x9)] fun x10 =>
effK (stE 24 x1 x10 h2) h2 fun x11 h12 =>
ldK 24 true x1 h12 fun r13 =>
K r13 h12
theorem f_journey_table_run (T : Tab) (D : DTab) (N : Nat) {β : Type} (K : AV → Hp → Option β) (h : Hp) : runK Tryz.prog T D N [0, 1, 2, 3] Tryz.f35 K [] h = f_journey_table Tryz.prog T D N K  h := by kernel_rfl
noncomputable def f_document_Normal (P : Program) (T : Tab) (D : DTab) (N : Nat) {β : Type} (K : AV → Hp → Option β) (a0 : AV) (h : Hp) : Option β :=
lenK a0 fun x1 =>
arithK .gtr x1 (.s (.int .i64 64)) fun x2 =>
condK x2 (
K (.tup [(.s (.slice none 0 0)), (.s (.int .i64 8))]) h) (
callK (T 71) [a0, (.fn 72 [])] h fun x3 h4 =>
condK x3 (
K (.tup [(.s (.slice none 0 0)), (.s (.int .i64 1))]) h4) (
callK (T 74) [a0] h4 fun x5 h6 =>
callK (T 75) [x5, (.fn 76 [])] h6 fun x7 h8 =>
callK (T 77) [x5] h8 fun x9 h10 =>
K (.tup [x9, (.s (.int .i64 0))]) h10))
theorem f_document_Normal_run (T : Tab) (D : DTab) (N : Nat) {β : Type} (K : AV → Hp → Option β) (a0 : AV) (h : Hp) : runK Tryz.prog T D N [0, 2, 3, 4, 7, 9] Tryz.f36 K [a0] h = f_document_Normal Tryz.prog T D N K a0 h := by kernel_rfl
noncomputable def o_document_of_j3 (P : Program) (T : Tab) (D : DTab) (N : Nat) {β : Type} (K : AV → Hp → Option β) (t : Tm) (h : Hp) : Option β :=
ldK 7 true (t 6) h fun x20 =>
effK (stE 7 (t 4) x20 h) h fun x21 h22 =>
ldK 7 true (t 4) h22 fun r23 =>
K r23 h22
noncomputable def o_document_of_j4 (P : Program) (T : Tab) (D : DTab) (N : Nat) {β : Type} (K : AV → Hp → Option β) (t : Tm) (h : Hp) : Option β :=
(o_document_of_j3 P T D N K t h)
noncomputable def o_document_of_j2 (P : Program) (T : Tab) (D : DTab) (N : Nat) {β : Type} (K : AV → Hp → Option β) (t : Tm) (h : Hp) : Option β :=
eqK P false 3 (t 8) (.s (.int .i64 0)) h fun x24 =>
condK x24 (
(o_document_of_j4 P T D N K (upd t 89 x24) h)) (
condK (t 7) (
faK 1 (t 6) fun x25 =>
effK (stE 1 x25 (.s (.int .i64 4)) h) h fun x26 h27 =>
(o_document_of_j4 P T D N K (upd (upd t 89 x24) 92 (t 7)) h27)) (
faK 1 (t 6) fun x28 =>
effK (stE 1 x28 (t 8) h) h fun x29 h30 =>
(o_document_of_j4 P T D N K (upd (upd t 89 x24) 92 (t 7)) h30)))
noncomputable def o_document_of_L5 (P : Program) (T : Tab) (D : DTab) (N : Nat) {β : Type} (t : Tm) (h : Hp) (k : Ex → St → Option β) : Option β :=
nextK (t 78) h fun x31 h32 =>
exK x31 0 fun x33 =>
condK x33 (
entryK (t 78) h32 fun x34 =>
exK x34 1 fun x35 =>
arithK .gtr x35 (.s (.int .i64 1)) fun x36 =>
condK x36 (
buildK [.s (.int .i64 0), .s (.int .i64 0), .s (.int .i64 0), .s (.int .i64 0), .s (.int .i64 0), .s (.int .i64 0), .s (.int .i64 0)] [(some (0, 1), (t 1)), (some (1, 1), (.s (.int .i64 5)))] fun x37 =>
effK (stE 7 (t 4) x37 h32) h32 fun x38 h39 =>
k .ret ((upd (upd (upd t 80 x33) 13 x35) 84 x36), h39)) (
k .normal ((upd (upd (upd t 80 x33) 13 x35) 84 x36), h32))) (
k (.exit 3) ((upd t 80 x33), h32))
noncomputable def o_document_of_aL5 (P : Program) (T : Tab) (D : DTab) (N : Nat) {β : Type} (K : AV → Hp → Option β) (e : Ex) (s : St) : Option β :=
  e.on ((o_document_of_j2 P T D N K s.1 s.2))
  (fun i => bif i == 3 then ((o_document_of_j2 P T D N K s.1 s.2)) else (none))
  (ldK 7 true (s.1 4) s.2 fun r40 =>
K r40 s.2)
noncomputable def o_document_of_j1_G (P : Program) (T : Tab) (D : DTab) (N : Nat) {β : Type} (cL5 : St → Option β) (K : AV → Hp → Option β) (t : Tm) (h : Hp) :  Option β :=
faK 1 (t 6) fun x11 =>
ldK 1 false x11 h fun x12 =>
eqK P false 3 x12 (.s (.int .i64 0)) h fun x13 =>
condK x13 (
buildK [.s (.int .i64 0), .s (.int .i64 0), .s (.int .i64 0), .s (.int .i64 0), .s (.int .i64 0), .s (.int .i64 0), .s (.int .i64 0)] [(some (0, 1), (t 1))] fun x14 =>
effK (stE 7 (t 4) x14 h) h fun x15 h16 =>
ldK 7 true (t 4) h16 fun r17 =>
K r17 h16) (
effK (rngE (t 5) h (List.length h)) h fun x18 h19 =>
cL5 ((upd (upd t 74 x13) 78 x18), h19))
noncomputable def o_document_of_j1 (P : Program) (T : Tab) (D : DTab) (N : Nat) {β : Type} (K : AV → Hp → Option β) (t : Tm) (h : Hp) : Option β := o_document_of_j1_G P T D N (fun s => iterK (fun s k => o_document_of_L5 P T D N s.1 s.2 k) N s (o_document_of_aL5 P T D N K)) K t h
noncomputable def o_document_of_j7 (P : Program) (T : Tab) (D : DTab) (N : Nat) {β : Type} (k : Ex → St → Option β) (t : Tm) (h : Hp) : Option β :=
arithK .add (t 19) (.s (.int .i64 1)) fun x42 =>
k .normal ((upd t 19 x42), h)
noncomputable def o_document_of_j8 (P : Program) (T : Tab) (D : DTab) (N : Nat) {β : Type} (k : Ex → St → Option β) (t : Tm) (h : Hp) : Option β :=
(o_document_of_j7 P T D N k t h)
noncomputable def o_document_of_j9 (P : Program) (T : Tab) (D : DTab) (N : Nat) {β : Type} (k : Ex → St → Option β) (t : Tm) (h : Hp) : Option β :=
ldK 2 true (t 11) h fun x61 =>
lookK P 98 (.s (.int .i64 0)) false (t 5) x61 h fun x62 =>
arithK .add x62 (.s (.int .i64 1)) fun x63 =>
effD (mentE P 98 (.s (.int .i64 0)) (t 5) x61 h) h fun x64 h65 e66 =>
exK x64 1 fun x67 =>
effD (estE (t 5) x67 x63 h65) h65 fun x68 h69 e70 =>
bif disjAll [] [([], []), ((idsOf (t 11)), []), ((idsOf (t 5)), []), ([], []), e66, ([], []), e70] then (
(o_document_of_j8 P T D N k t h69)) else none
noncomputable def o_document_of_j10 (P : Program) (T : Tab) (D : DTab) (N : Nat) {β : Type} (k : Ex → St → Option β) (t : Tm) (h : Hp) : Option β :=
(o_document_of_j9 P T D N k t h)
noncomputable def o_document_of_L6 (P : Program) (T : Tab) (D : DTab) (N : Nat) {β : Type} (t : Tm) (h : Hp) (k : Ex → St → Option β) : Option β :=
arithK .lss (t 19) (t 18) fun x41 =>
condK x41 (
iaK 7 (t 17) (t 19) fun x43 =>
ldK 7 true x43 h fun x44 =>
effK (boxE 7 (.agg [.s (.int .i64 0), .s (.int .i64 0), .s (.int .i64 0), .s (.int .i64 0), .s (.int .i64 0), .s (.int .i64 0), .s (.int .i64 0)]) (List.length h)) h fun x45 h46 =>
effK (stE 7 x45 x44 h46) h46 fun x47 h48 =>
faK 0 x45 fun x49 =>
ldK 1 false x49 h48 fun x50 =>
eqK P true 3 x50 (t 1) h48 fun x51 =>
condK x51 (
(o_document_of_j8 P T D N k (upd (upd (upd t 20 x41) 10 x45) 26 x51) h48)) (
faK 1 x45 fun x52 =>
ldK 1 false x52 h48 fun x53 =>
faK 2 x45 fun x54 =>
ldK 1 false x54 h48 fun x55 =>
buildK [.s (.int .i64 0), .s (.int .i64 0)] [(some (0, 1), x53), (some (1, 1), x55)] fun x56 =>
effK (boxE 2 (.agg [.s (.int .i64 0), .s (.int .i64 0)]) (List.length h48)) h48 fun x57 h58 =>
effK (stE 2 x57 x56 h58) h58 fun x59 h60 =>
faK 1 x45 fun x71 =>
ldK 1 false x71 h60 fun x72 =>
eqK P false 3 x72 (.s (.int .i64 1)) h60 fun x73 =>
condK x73 (
faK 4 x45 fun x74 =>
ldK 1 false x74 h60 fun x75 =>
faK 5 x45 fun x76 =>
ldK 1 false x76 h60 fun x77 =>
faK 6 x45 fun x78 =>
ldK 1 false x78 h60 fun x79 =>
faK 1 (t 6) fun x80 =>
effD (stE 1 x80 (.s (.int .i64 1)) h60) h60 fun x81 h82 e83 =>
faK 2 (t 6) fun x84 =>
effD (stE 1 x84 x75 h82) h82 fun x85 h86 e87 =>
faK 3 (t 6) fun x88 =>
effD (stE 1 x88 x77 h86) h86 fun x89 h90 e91 =>
faK 4 (t 6) fun x92 =>
effD (stE 1 x92 x79 h90) h90 fun x93 h94 e95 =>
bif disjAll [(1, 7), (3, 7), (5, 7), (3, 9), (5, 9), (5, 11)] [([], []), ((idsOf x74), []), ([], []), ((idsOf x76), []), ([], []), ((idsOf x78), []), ([], []), e83, ([], []), e87, ([], []), e91, ([], []), e95] then (
(o_document_of_j10 P T D N k (upd (upd (upd (upd (upd (upd t 20 x41) 10 x45) 26 x51) 11 x57) 33 x72) 34 x73) h94)) else none) (
eqK P false 3 x72 (.s (.int .i64 2)) h60 fun x96 =>
condK x96 (
faK 5 x45 fun x97 =>
ldK 1 false x97 h60 fun x98 =>
faK 3 (t 6) fun x99 =>
effK (stE 1 x99 x98 h60) h60 fun x100 h101 =>
faK 6 (t 6) fun x102 =>
ldK 1 false x102 h101 fun x103 =>
arithK .add x103 (.s (.int .i64 1)) fun x104 =>
faK 6 (t 6) fun x105 =>
effK (stE 1 x105 x104 h101) h101 fun x106 h107 =>
(o_document_of_j10 P T D N k (upd (upd (upd (upd (upd (upd (upd t 20 x41) 10 x45) 26 x51) 11 x57) 33 x72) 34 x73) 46 x96) h107)) (
eqK P false 3 x72 (.s (.int .i64 3)) h60 fun x108 =>
condK x108 (
faK 6 x45 fun x109 =>
ldK 1 false x109 h60 fun x110 =>
faK 5 (t 6) fun x111 =>
effK (stE 1 x111 x110 h60) h60 fun x112 h113 =>
(o_document_of_j10 P T D N k (upd (upd (upd (upd (upd (upd (upd (upd (upd t 20 x41) 10 x45) 26 x51) 11 x57) 33 x72) 34 x73) 46 x96) 55 x108) 8 (.s (.int .i64 2))) h113)) (
eqK P false 3 x72 (.s (.int .i64 4)) h60 fun x114 =>
condK x114 (
faK 0 x57 fun x115 =>
effK (stE 1 x115 (.s (.int .i64 3)) h60) h60 fun x116 h117 =>
(o_document_of_j10 P T D N k (upd (upd (upd (upd (upd (upd (upd (upd (upd (upd t 20 x41) 10 x45) 26 x51) 11 x57) 33 x72) 34 x73) 46 x96) 55 x108) 60 x114) 8 (.s (.int .i64 3))) h117)) (
eqK P false 3 x72 (.s (.int .i64 5)) h60 fun x118 =>
condK x118 (
(o_document_of_j8 P T D N k (upd (upd (upd (upd (upd (upd (upd (upd (upd (upd (upd t 20 x41) 10 x45) 26 x51) 11 x57) 33 x72) 34 x73) 46 x96) 55 x108) 60 x114) 63 x118) 7 (.s (.bool true))) h60)) (
(o_document_of_j10 P T D N k (upd (upd (upd (upd (upd (upd (upd (upd (upd (upd t 20 x41) 10 x45) 26 x51) 11 x57) 33 x72) 34 x73) 46 x96) 55 x108) 60 x114) 63 x118) h60)))))))) (
k (.exit 0) ((upd t 20 x41), h))
noncomputable def o_document_of_aL6 (P : Program) (T : Tab) (D : DTab) (N : Nat) {β : Type} (K : AV → Hp → Option β) (e : Ex) (s : St) : Option β :=
  e.on ((o_document_of_j1 P T D N K s.1 s.2))
  (fun i => bif i == 0 then ((o_document_of_j1 P T D N K s.1 s.2)) else (none))
  (ldK 7 true (s.1 4) s.2 fun r119 =>
K r119 s.2)
noncomputable def o_document_of_G (P : Program) (T : Tab) (D : DTab) (N : Nat) {β : Type} (cL6 : St → Option β) (K : AV → Hp → Option β) (a0 : AV) (a1 : AV) (h : Hp) :  Option β :=
effK (boxE 7 (.agg [.s (.int .i64 0), .s (.int .i64 0), .s (.int .i64 0), .s (.int .i64 0), .s (.int .i64 0), .s (.int .i64 0), .s (.int .i64 0)]) (List.length h)) h fun x1 h2 =>
effK (some (.mp (List.length h2), EN (.map []))) h2 fun x3 h4 =>
buildK [.s (.int .i64 0), .s (.int .i64 0), .s (.int .i64 0), .s (.int .i64 0), .s (.int .i64 0), .s (.int .i64 0), .s (.int .i64 0)] [(some (0, 1), a1)] fun x5 =>
effK (boxE 7 (.agg [.s (.int .i64 0), .s (.int .i64 0), .s (.int .i64 0), .s (.int .i64 0), .s (.int .i64 0), .s (.int .i64 0), .s (.int .i64 0)]) (List.length h4)) h4 fun x6 h7 =>
effK (stE 7 x6 x5 h7) h7 fun x8 h9 =>
lenK a0 fun x10 =>
cL6 ((upd (upd (upd (upd (upd (upd (upd (upd (tm0 [a0, a1]) 4 x1) 5 x3) 6 x6) 7 (.s (.bool false))) 8 (.s (.int .i64 0))) 17 a0) 18 x10) 19 (.s (.int .i64 0))), h9)
noncomputable def o_document_of (P : Program) (T : Tab) (D : DTab) (N : Nat) {β : Type} (K : AV → Hp → Option β) (a0 : AV) (a1 : AV) (h : Hp) : Option β := o_document_of_G P T D N (fun s => iterK (fun s k => o_document_of_L6 P T D N s.1 s.2 k) N s (o_document_of_aL6 P T D N K)) K a0 a1 h
noncomputable def f_document_of_j3 (P : Program) (T : Tab) (D : DTab) (N : Nat) {β : Type} (K : AV → Hp → Option β) (v4 : AV) (v6 : AV) (h : Hp) : Option β :=
ldK 7 true v6 h fun x20 =>
effK (stE 7 v4 x20 h) h fun x21 h22 =>
ldK 7 true v4 h22 fun r23 =>
K r23 h22
noncomputable def f_document_of_j4 (P : Program) (T : Tab) (D : DTab) (N : Nat) {β : Type} (K : AV → Hp → Option β) (v4 : AV) (v6 : AV) (h : Hp) : Option β :=
f_document_of_j3 P T D N K v4 v6 h
noncomputable def f_document_of_j2 (P : Program) (T : Tab) (D : DTab) (N : Nat) {β : Type} (K : AV → Hp → Option β) (v4 : AV) (v6 : AV) (v7 : AV) (v8 : AV) (h : Hp) : Option β :=
eqK P false 3 v8 (.s (.int .i64 0)) h fun x24 =>
condK x24 (
f_document_of_j4 P T D N K v4 v6 h) (
condK v7 (
faK 1 v6 fun x25 =>
effK (stE 1 x25 (.s (.int .i64 4)) h) h fun x26 h27 =>
f_document_of_j4 P T D N K v4 v6 h27) (
faK 1 v6 fun x28 =>
effK (stE 1 x28 v8 h) h fun x29 h30 =>
f_document_of_j4 P T D N K v4 v6 h30))
noncomputable def f_document_of_b5 (P : Program) (T : Tab) (D : DTab) (N : Nat) {β : Type} (xn : AV → AV → AV → AV → AV → AV → Hp → Option β) (x3 : AV → AV → AV → AV → Hp → Option β) (xr : AV → Hp → Option β) (v1 : AV) (v4 : AV) (v6 : AV) (v7 : AV) (v8 : AV) (v78 : AV) (h : Hp) : Option β :=
nextK v78 h fun x31 h32 =>
exK x31 0 fun x33 =>
condK x33 (
entryK v78 h32 fun x34 =>
exK x34 1 fun x35 =>
arithK .gtr x35 (.s (.int .i64 1)) fun x36 =>
condK x36 (
buildK [.s (.int .i64 0), .s (.int .i64 0), .s (.int .i64 0), .s (.int .i64 0), .s (.int .i64 0), .s (.int .i64 0), .s (.int .i64 0)] [(some (0, 1), v1), (some (1, 1), (.s (.int .i64 5)))] fun x37 =>
effK (stE 7 v4 x37 h32) h32 fun x38 h39 =>
xr v4 h39) (
xn v1 v4 v6 v7 v8 v78 h32)) (
x3 v4 v6 v7 v8 h32)
noncomputable def f_document_of_L5 (P : Program) (T : Tab) (D : DTab) (N : Nat) {β : Type} (x3 : AV → AV → AV → AV → Hp → Option β) (xr : AV → Hp → Option β) : Nat → AV → AV → AV → AV → AV → AV → Hp → Option β
  | 0 => fun _ _ _ _ _ _ _ => none
  | n + 1 => fun v1 v4 v6 v7 v8 v78 h => f_document_of_b5 P T D N (f_document_of_L5 P T D N x3 xr n) x3 xr v1 v4 v6 v7 v8 v78 h
noncomputable def f_document_of_j1 (P : Program) (T : Tab) (D : DTab) (N : Nat) {β : Type} (K : AV → Hp → Option β) (v1 : AV) (v4 : AV) (v5 : AV) (v6 : AV) (v7 : AV) (v8 : AV) (h : Hp) : Option β :=
faK 1 v6 fun x11 =>
ldK 1 false x11 h fun x12 =>
eqK P false 3 x12 (.s (.int .i64 0)) h fun x13 =>
condK x13 (
buildK [.s (.int .i64 0), .s (.int .i64 0), .s (.int .i64 0), .s (.int .i64 0), .s (.int .i64 0), .s (.int .i64 0), .s (.int .i64 0)] [(some (0, 1), v1)] fun x14 =>
effK (stE 7 v4 x14 h) h fun x15 h16 =>
ldK 7 true v4 h16 fun r17 =>
K r17 h16) (
effK (rngE v5 h (List.length h)) h fun x18 h19 =>
f_document_of_L5 P T D N (fun w40_4 w40_6 w40_7 w40_8 h => f_document_of_j2 P T D N K w40_4 w40_6 w40_7 w40_8 h) (fun w41_4 h => ldK 7 true w41_4 h fun r42 =>
K r42 h) N v1 v4 v6 v7 v8 x18 h19)
noncomputable def f_document_of_j7 (P : Program) (T : Tab) (D : DTab) (N : Nat) {β : Type} (xn : AV → AV → AV → AV → AV → AV → AV → AV → AV → Hp → Option β) (x0 : AV → AV → AV → AV → AV → AV → Hp → Option β) (v1 : AV) (v4 : AV) (v5 : AV) (v6 : AV) (v7 : AV) (v8 : AV) (v17 : AV) (v18 : AV) (v19 : AV) (h : Hp) : Option β :=
arithK .add v19 (.s (.int .i64 1)) fun x44 =>
xn v1 v4 v5 v6 v7 v8 v17 v18 x44 h
noncomputable def f_document_of_j8 (P : Program) (T : Tab) (D : DTab) (N : Nat) {β : Type} (xn : AV → AV → AV → AV → AV → AV → AV → AV → AV → Hp → Option β) (x0 : AV → AV → AV → AV → AV → AV → Hp → Option β) (v1 : AV) (v4 : AV) (v5 : AV) (v6 : AV) (v7 : AV) (v8 : AV) (v17 : AV) (v18 : AV) (v19 : AV) (h : Hp) : Option β :=
f_document_of_j7 P T D N xn x0 v1 v4 v5 v6 v7 v8 v17 v18 v19 h
noncomputable def f_document_of_j9 (P : Program) (T : Tab) (D : DTab) (N : Nat) {β : Type} (xn : AV → AV → AV → AV → AV → AV → AV → AV → AV → Hp → Option β) (x0 : AV → AV → AV → AV → AV → AV → Hp → Option β) (v1 : AV) (v4 : AV) (v5 : AV) (v6 : AV) (v7 : AV) (v8 : AV) (v11 : AV) (v17 : AV) (v18 : AV) (v19 : AV) (h : Hp) : Option β :=
ldK 2 true v11 h fun x63 =>
lookK P 98 (.s (.int .i64 0)) false v5 x63 h fun x64 =>
arithK .add x64 (.s (.int .i64 1)) fun x65 =>
effD (mentE P 98 (.s (.int .i64 0)) v5 x63 h) h fun x66 h67 e68 =>
exK x66 1 fun x69 =>
effD (estE v5 x69 x65 h67) h67 fun x70 h71 e72 =>
bif disjAll [] [([], []), ((idsOf v11), []), ((idsOf v5), []), ([], []), e68, ([], []), e72] then (
f_document_of_j8 P T D N xn x0 v1 v4 v5 v6 v7 v8 v17 v18 v19 h71) else none
noncomputable def f_document_of_j10 (P : Program) (T : Tab) (D : DTab) (N : Nat) {β : Type} (xn : AV → AV → AV → AV → AV → AV → AV → AV → AV → Hp → Option β) (x0 : AV → AV → AV → AV → AV → AV → Hp → Option β) (v1 : AV) (v4 : AV) (v5 : AV) (v6 : AV) (v7 : AV) (v8 : AV) (v11 : AV) (v17 : AV) (v18 : AV) (v19 : AV) (h : Hp) : Option β :=
f_document_of_j9 P T D N xn x0 v1 v4 v5 v6 v7 v8 v11 v17 v18 v19 h
noncomputable def f_document_of_b6 (P : Program) (T : Tab) (D : DTab) (N : Nat) {β : Type} (xn : AV → AV → AV → AV → AV → AV → AV → AV → AV → Hp → Option β) (x0 : AV → AV → AV → AV → AV → AV → Hp → Option β) (v1 : AV) (v4 : AV) (v5 : AV) (v6 : AV) (v7 : AV) (v8 : AV) (v17 : AV) (v18 : AV) (v19 : AV) (h : Hp) : Option β :=
arithK .lss v19 v18 fun x43 =>
condK x43 (
iaK 7 v17 v19 fun x45 =>
ldK 7 true x45 h fun x46 =>
effK (boxE 7 (.agg [.s (.int .i64 0), .s (.int .i64 0), .s (.int .i64 0), .s (.int .i64 0), .s (.int .i64 0), .s (.int .i64 0), .s (.int .i64 0)]) (List.length h)) h fun x47 h48 =>
effK (stE 7 x47 x46 h48) h48 fun x49 h50 =>
faK 0 x47 fun x51 =>
ldK 1 false x51 h50 fun x52 =>
eqK P true 3 x52 v1 h50 fun x53 =>
condK x53 (
f_document_of_j8 P T D N xn x0 v1 v4 v5 v6 v7 v8 v17 v18 v19 h50) (
faK 1 x47 fun x54 =>
ldK 1 false x54 h50 fun x55 =>
faK 2 x47 fun x56 =>
ldK 1 false x56 h50 fun x57 =>
buildK [.s (.int .i64 0), .s (.int .i64 0)] [(some (0, 1), x55), (some (1, 1), x57)] fun x58 =>
effK (boxE 2 (.agg [.s (.int .i64 0), .s (.int .i64 0)]) (List.length h50)) h50 fun x59 h60 =>
effK (stE 2 x59 x58 h60) h60 fun x61 h62 =>
faK 1 x47 fun x73 =>
ldK 1 false x73 h62 fun x74 =>
eqK P false 3 x74 (.s (.int .i64 1)) h62 fun x75 =>
condK x75 (
faK 4 x47 fun x76 =>
ldK 1 false x76 h62 fun x77 =>
faK 5 x47 fun x78 =>
ldK 1 false x78 h62 fun x79 =>
faK 6 x47 fun x80 =>
ldK 1 false x80 h62 fun x81 =>
faK 1 v6 fun x82 =>
effD (stE 1 x82 (.s (.int .i64 1)) h62) h62 fun x83 h84 e85 =>
faK 2 v6 fun x86 =>
effD (stE 1 x86 x77 h84) h84 fun x87 h88 e89 =>
faK 3 v6 fun x90 =>
effD (stE 1 x90 x79 h88) h88 fun x91 h92 e93 =>
faK 4 v6 fun x94 =>
effD (stE 1 x94 x81 h92) h92 fun x95 h96 e97 =>
bif disjAll [(1, 7), (3, 7), (5, 7), (3, 9), (5, 9), (5, 11)] [([], []), ((idsOf x76), []), ([], []), ((idsOf x78), []), ([], []), ((idsOf x80), []), ([], []), e85, ([], []), e89, ([], []), e93, ([], []), e97] then (
f_document_of_j10 P T D N xn x0 v1 v4 v5 v6 v7 v8 x59 v17 v18 v19 h96) else none) (
eqK P false 3 x74 (.s (.int .i64 2)) h62 fun x98 =>
condK x98 (
faK 5 x47 fun x99 =>
ldK 1 false x99 h62 fun x100 =>
faK 3 v6 fun x101 =>
effK (stE 1 x101 x100 h62) h62 fun x102 h103 =>
faK 6 v6 fun x104 =>
ldK 1 false x104 h103 fun x105 =>
arithK .add x105 (.s (.int .i64 1)) fun x106 =>
faK 6 v6 fun x107 =>
effK (stE 1 x107 x106 h103) h103 fun x108 h109 =>
f_document_of_j10 P T D N xn x0 v1 v4 v5 v6 v7 v8 x59 v17 v18 v19 h109) (
eqK P false 3 x74 (.s (.int .i64 3)) h62 fun x110 =>
condK x110 (
faK 6 x47 fun x111 =>
ldK 1 false x111 h62 fun x112 =>
faK 5 v6 fun x113 =>
effK (stE 1 x113 x112 h62) h62 fun x114 h115 =>
f_document_of_j10 P T D N xn x0 v1 v4 v5 v6 v7 (.s (.int .i64 2)) x59 v17 v18 v19 h115) (
eqK P false 3 x74 (.s (.int .i64 4)) h62 fun x116 =>
condK x116 (
faK 0 x59 fun x117 =>
effK (stE 1 x117 (.s (.int .i64 3)) h62) h62 fun x118 h119 =>
f_document_of_j10 P T D N xn x0 v1 v4 v5 v6 v7 (.s (.int .i64 3)) x59 v17 v18 v19 h119) (
eqK P false 3 x74 (.s (.int .i64 5)) h62 fun x120 =>
condK x120 (
f_document_of_j8 P T D N xn x0 v1 v4 v5 v6 (.s (.bool true)) v8 v17 v18 v19 h62) (
f_document_of_j10 P T D N xn x0 v1 v4 v5 v6 v7 v8 x59 v17 v18 v19 h62))))))) (
x0 v1 v4 v5 v6 v7 v8 h)
noncomputable def f_document_of_L6 (P : Program) (T : Tab) (D : DTab) (N : Nat) {β : Type} (x0 : AV → AV → AV → AV → AV → AV → Hp → Option β) : Nat → AV → AV → AV → AV → AV → AV → AV → AV → AV → Hp → Option β
  | 0 => fun _ _ _ _ _ _ _ _ _ _ => none
  | n + 1 => fun v1 v4 v5 v6 v7 v8 v17 v18 v19 h => f_document_of_b6 P T D N (f_document_of_L6 P T D N x0 n) x0 v1 v4 v5 v6 v7 v8 v17 v18 v19 h
noncomputable def f_document_of (P : Program) (T : Tab) (D : DTab) (N : Nat) {β : Type} (K : AV → Hp → Option β) (a0 : AV) (a1 : AV) (h : Hp) : Option β :=
effK (boxE 7 (.agg [.s (.int .i64 0), .s (.int .i64 0), .s (.int .i64 0), .s (.int .i64 0), .s (.int .i64 0), .s (.int .i64 0), .s (.int .i64 0)]) (List.length h)) h fun x1 h2 =>
effK (some (.mp (List.length h2), EN (.map []))) h2 fun x3 h4 =>
buildK [.s (.int .i64 0), .s (.int .i64 0), .s (.int .i64 0), .s (.int .i64 0), .s (.int .i64 0), .s (.int .i64 0), .s (.int .i64 0)] [(some (0, 1), a1)] fun x5 =>
effK (boxE 7 (.agg [.s (.int .i64 0), .s (.int .i64 0), .s (.int .i64 0), .s (.int .i64 0), .s (.int .i64 0), .s (.int .i64 0), .s (.int .i64 0)]) (List.length h4)) h4 fun x6 h7 =>
effK (stE 7 x6 x5 h7) h7 fun x8 h9 =>
lenK a0 fun x10 =>
f_document_of_L6 P T D N (fun w121_1 w121_4 w121_5 w121_6 w121_7 w121_8 h => f_document_of_j1 P T D N K w121_1 w121_4 w121_5 w121_6 w121_7 w121_8 h) N a1 x1 x3 x6 (.s (.bool false)) (.s (.int .i64 0)) a0 x10 (.s (.int .i64 0)) h9
theorem f_document_of_b5_eq (P : Program) (T : Tab) (D : DTab) (N : Nat) {β : Type} (xn : AV → AV → AV → AV → AV → AV → Hp → Option β) (x3 : AV → AV → AV → AV → Hp → Option β) (xr : AV → Hp → Option β) (xd : Nat → St → Option β) (xq : St → Option β) (t : Tm) (h : Hp) : o_document_of_L5 P T D N t h (fun (e : Ex) (s : St) => e.on (xn (s.1 1) (s.1 4) (s.1 6) (s.1 7) (s.1 8) (s.1 78) s.2) (fun i => (bif i == 3 then x3 (s.1 4) (s.1 6) (s.1 7) (s.1 8) s.2 else (xd i s))) (xr (s.1 4) s.2)) = f_document_of_b5 P T D N xn x3 xr (t 1) (t 4) (t 6) (t 7) (t 8) (t 78) h := by kernel_rfl
theorem f_document_of_L5_eq (P : Program) (T : Tab) (D : DTab) (N : Nat) {β : Type} (A : Ex → St → Option β) (x3 : AV → AV → AV → AV → Hp → Option β) (xr : AV → Hp → Option β) (q3 : ∀ s, A (.exit 3) s = x3 (s.1 4) (s.1 6) (s.1 7) (s.1 8) s.2) (qr : ∀ s, A .ret s = xr (s.1 4) s.2) : ∀ (n : Nat) (s : St), iterK (fun s k => o_document_of_L5 P T D N s.1 s.2 k) n s A = f_document_of_L5 P T D N x3 xr n (s.1 1) (s.1 4) (s.1 6) (s.1 7) (s.1 8) (s.1 78) s.2 := by
  intro n
  induction n with
  | zero => intro s; rfl
  | succ n ih =>
    intro s
    have hk : (fun (e : Ex) (s' : St) => Ex.on e (iterK (fun s k => o_document_of_L5 P T D N s.1 s.2 k) n s' A) (fun i => A (.exit i) s') (A .ret s')) = (fun (e : Ex) (s : St) => e.on ((f_document_of_L5 P T D N x3 xr n) (s.1 1) (s.1 4) (s.1 6) (s.1 7) (s.1 8) (s.1 78) s.2) (fun i => (bif i == 3 then x3 (s.1 4) (s.1 6) (s.1 7) (s.1 8) s.2 else (A (.exit i) s))) (xr (s.1 4) s.2)) := by
      funext e s'
      cases e with
      | normal => exact ih s'
      | ret => exact qr s'
      | exit i =>
        by_cases r3 : i = 3
        · subst r3; exact q3 s'
        simp only [Ex.on, beq_false_of_ne r3, cond_false]
    show o_document_of_L5 P T D N s.1 s.2 (fun (e : Ex) (s' : St) => Ex.on e (iterK (fun s k => o_document_of_L5 P T D N s.1 s.2 k) n s' A) (fun i => A (.exit i) s') (A .ret s')) = _
    rw [hk]
    exact f_document_of_b5_eq P T D N (f_document_of_L5 P T D N x3 xr n) x3 xr (fun i s => A (.exit i) s) (fun s => A .ret s) s.1 s.2
theorem f_document_of_j1_eq (P : Program) (T : Tab) (D : DTab) (N : Nat) {β : Type} (K : AV → Hp → Option β) (t : Tm) (h : Hp) : o_document_of_j1 P T D N K t h = f_document_of_j1 P T D N K (t 1) (t 4) (t 5) (t 6) (t 7) (t 8) h := by
  have eL5 : (fun s : St => iterK (fun s k => o_document_of_L5 P T D N s.1 s.2 k) N s (o_document_of_aL5 P T D N K)) = (fun s : St => f_document_of_L5 P T D N (fun w40_4 w40_6 w40_7 w40_8 h => f_document_of_j2 P T D N K w40_4 w40_6 w40_7 w40_8 h) (fun w41_4 h => ldK 7 true w41_4 h fun r42 =>
K r42 h) N (s.1 1) (s.1 4) (s.1 6) (s.1 7) (s.1 8) (s.1 78) s.2) := funext fun s => f_document_of_L5_eq P T D N (o_document_of_aL5 P T D N K) (fun w40_4 w40_6 w40_7 w40_8 h => f_document_of_j2 P T D N K w40_4 w40_6 w40_7 w40_8 h) (fun w41_4 h => ldK 7 true w41_4 h fun r42 =>
K r42 h) (fun s => rfl) (fun s => rfl) N s
  show o_document_of_j1_G P T D N (fun s => iterK (fun s k => o_document_of_L5 P T D N s.1 s.2 k) N s (o_document_of_aL5 P T D N K)) K t h = _
  rw [eL5]
  kernel_rfl
theorem f_document_of_b6_eq (P : Program) (T : Tab) (D : DTab) (N : Nat) {β : Type} (xn : AV → AV → AV → AV → AV → AV → AV → AV → AV → Hp → Option β) (x0 : AV → AV → AV → AV → AV → AV → Hp → Option β) (xd : Nat → St → Option β) (xq : St → Option β) (t : Tm) (h : Hp) : o_document_of_L6 P T D N t h (fun (e : Ex) (s : St) => e.on (xn (s.1 1) (s.1 4) (s.1 5) (s.1 6) (s.1 7) (s.1 8) (s.1 17) (s.1 18) (s.1 19) s.2) (fun i => (bif i == 0 then x0 (s.1 1) (s.1 4) (s.1 5) (s.1 6) (s.1 7) (s.1 8) s.2 else (xd i s))) (xq s)) = f_document_of_b6 P T D N xn x0 (t 1) (t 4) (t 5) (t 6) (t 7) (t 8) (t 17) (t 18) (t 19) h := by kernel_rfl
theorem f_document_of_L6_eq (P : Program) (T : Tab) (D : DTab) (N : Nat) {β : Type} (A : Ex → St → Option β) (x0 : AV → AV → AV → AV → AV → AV → Hp → Option β) (q0 : ∀ s, A (.exit 0) s = x0 (s.1 1) (s.1 4) (s.1 5) (s.1 6) (s.1 7) (s.1 8) s.2) : ∀ (n : Nat) (s : St), iterK (fun s k => o_document_of_L6 P T D N s.1 s.2 k) n s A = f_document_of_L6 P T D N x0 n (s.1 1) (s.1 4) (s.1 5) (s.1 6) (s.1 7) (s.1 8) (s.1 17) (s.1 18) (s.1 19) s.2 := by
  intro n
  induction n with
  | zero => intro s; rfl
  | succ n ih =>
    intro s
    have hk : (fun (e : Ex) (s' : St) => Ex.on e (iterK (fun s k => o_document_of_L6 P T D N s.1 s.2 k) n s' A) (fun i => A (.exit i) s') (A .ret s')) = (fun (e : Ex) (s : St) => e.on ((f_document_of_L6 P T D N x0 n) (s.1 1) (s.1 4) (s.1 5) (s.1 6) (s.1 7) (s.1 8) (s.1 17) (s.1 18) (s.1 19) s.2) (fun i => (bif i == 0 then x0 (s.1 1) (s.1 4) (s.1 5) (s.1 6) (s.1 7) (s.1 8) s.2 else (A (.exit i) s))) (A .ret s)) := by
      funext e s'
      cases e with
      | normal => exact ih s'
      | ret => exact rfl
      | exit i =>
        by_cases r0 : i = 0
        · subst r0; exact q0 s'
        simp only [Ex.on, beq_false_of_ne r0, cond_false]
    show o_document_of_L6 P T D N s.1 s.2 (fun (e : Ex) (s' : St) => Ex.on e (iterK (fun s k => o_document_of_L6 P T D N s.1 s.2 k) n s' A) (fun i => A (.exit i) s') (A .ret s')) = _
    rw [hk]
    exact f_document_of_b6_eq P T D N (f_document_of_L6 P T D N x0 n) x0 (fun i s => A (.exit i) s) (fun s => A .ret s) s.1 s.2
theorem f_document_of_old_eq (P : Program) (T : Tab) (D : DTab) (N : Nat) {β : Type} (K : AV → Hp → Option β) (a0 : AV) (a1 : AV) (h : Hp) : o_document_of P T D N K a0 a1 h = f_document_of P T D N K a0 a1 h := by
  have eL6 : (fun s : St => iterK (fun s k => o_document_of_L6 P T D N s.1 s.2 k) N s (o_document_of_aL6 P T D N K)) = (fun s : St => f_document_of_L6 P T D N (fun w121_1 w121_4 w121_5 w121_6 w121_7 w121_8 h => f_document_of_j1 P T D N K w121_1 w121_4 w121_5 w121_6 w121_7 w121_8 h) N (s.1 1) (s.1 4) (s.1 5) (s.1 6) (s.1 7) (s.1 8) (s.1 17) (s.1 18) (s.1 19) s.2) := funext fun s => f_document_of_L6_eq P T D N (o_document_of_aL6 P T D N K) (fun w121_1 w121_4 w121_5 w121_6 w121_7 w121_8 h => f_document_of_j1 P T D N K w121_1 w121_4 w121_5 w121_6 w121_7 w121_8 h) (fun s => f_document_of_j1_eq P T D N K s.1 s.2) N s
  show o_document_of_G P T D N (fun s => iterK (fun s k => o_document_of_L6 P T D N s.1 s.2 k) N s (o_document_of_aL6 P T D N K)) K a0 a1 h = _
  rw [eL6]
  kernel_rfl
theorem o_document_of_run (T : Tab) (D : DTab) (N : Nat) {β : Type} (K : AV → Hp → Option β) (a0 : AV) (a1 : AV) (h : Hp) : runK Tryz.prog T D N [0, 1, 4, 5, 6, 7, 8, 10, 11, 13, 17, 18, 19, 20, 26, 33, 34, 46, 55, 60, 63, 74, 78, 80, 84, 89, 92] Tryz.f37 K [a0, a1] h = o_document_of Tryz.prog T D N K a0 a1 h := by kernel_rfl
theorem f_document_of_run (T : Tab) (D : DTab) (N : Nat) {β : Type} (K : AV → Hp → Option β) (a0 : AV) (a1 : AV) (h : Hp) : runK Tryz.prog T D N [0, 1, 4, 5, 6, 7, 8, 10, 11, 13, 17, 18, 19, 20, 26, 33, 34, 46, 55, 60, 63, 74, 78, 80, 84, 89, 92] Tryz.f37 K [a0, a1] h = f_document_of Tryz.prog T D N K a0 a1 h := (o_document_of_run T D N K a0 a1 h).trans (f_document_of_old_eq Tryz.prog T D N K a0 a1 h)
noncomputable def f_slices_ContainsFunc_Leg (P : Program) (T : Tab) (D : DTab) (N : Nat) {β : Type} (K : AV → Hp → Option β) (a0 : AV) (a1 : AV) (h : Hp) : Option β :=
callK (T 78) [a0, a1] h fun x1 h2 =>
arithK .geq x1 (.s (.int .i64 0)) fun x3 =>
K x3 h2
theorem f_slices_ContainsFunc_Leg_run (T : Tab) (D : DTab) (N : Nat) {β : Type} (K : AV → Hp → Option β) (a0 : AV) (a1 : AV) (h : Hp) : runK Tryz.prog T D N [0, 1, 4] Tryz.f38 K [a0, a1] h = f_slices_ContainsFunc_Leg Tryz.prog T D N K a0 a1 h := by kernel_rfl
noncomputable def f_journey_Transit_1 (P : Program) (T : Tab) (D : DTab) (N : Nat) {β : Type} (K : AV → Hp → Option β) (a0 : AV) (h : Hp) : Option β :=
callK (T 23) [a0] h fun x1 h2 =>
notK x1 fun x3 =>
K x3 h2
theorem f_journey_Transit_1_run (T : Tab) (D : DTab) (N : Nat) {β : Type} (K : AV → Hp → Option β) (a0 : AV) (h : Hp) : runK Tryz.prog T D N [0, 2] Tryz.f39 K [a0] h = f_journey_Transit_1 Tryz.prog T D N K a0 h := by kernel_rfl
noncomputable def o_journey_at_j1 (P : Program) (T : Tab) (D : DTab) (N : Nat) {β : Type} (K : AV → Hp → Option β) (t : Tm) (h : Hp) : Option β :=
sliceK 5 (t 0) none (some (t 5)) none fun x3 =>
callK (T 17) [x3] h fun x4 h5 =>
exK x4 0 fun x6 =>
exK x4 1 fun x7 =>
exK x4 2 fun x8 =>
effK (boxE 9 (.agg [.s (.int .i64 0), .s (.int .i64 0), .s (.int .i64 0), .s (.int .i64 0), .s (.int .i64 0), .s (.int .i64 0), .s (.int .i64 0), .s (.bool false), .s (.bool false)]) (List.length h5)) h5 fun x9 h10 =>
effK (stE 9 x9 x6 h10) h10 fun x11 h12 =>
ldK 9 true x9 h12 fun x13 =>
effK (stE 9 (t 4) x13 h12) h12 fun x14 h15 =>
ldK 9 true (t 4) h15 fun r16 =>
K r16 h15
noncomputable def o_journey_at_L2 (P : Program) (T : Tab) (D : DTab) (N : Nat) {β : Type} (t : Tm) (h : Hp) (k : Ex → St → Option β) : Option β :=
lenK (t 0) fun x17 =>
arithK .lss (t 5) x17 fun x18 =>
grpK true x18 h (fun k19 =>
iaK 5 (t 0) (t 5) fun x20 =>
faK 0 x20 fun x21 =>
ldK 1 false x21 h fun x22 =>
arithK .leq x22 (t 1) fun x23 =>
k19 x23 h) fun x24 h25 =>
condK x24 (
arithK .add (t 5) (.s (.int .i64 1)) fun x26 =>
k .normal ((upd (upd t 21 x24) 5 x26), h25)) (
k (.exit 0) ((upd t 21 x24), h25))
noncomputable def o_journey_at_aL2 (P : Program) (T : Tab) (D : DTab) (N : Nat) {β : Type} (K : AV → Hp → Option β) (e : Ex) (s : St) : Option β :=
  e.on ((o_journey_at_j1 P T D N K s.1 s.2))
  (fun i => bif i == 0 then ((o_journey_at_j1 P T D N K s.1 s.2)) else (none))
  (ldK 9 true (s.1 4) s.2 fun r27 =>
K r27 s.2)
noncomputable def o_journey_at_G (P : Program) (T : Tab) (D : DTab) (N : Nat) {β : Type} (cL2 : St → Option β) (K : AV → Hp → Option β) (a0 : AV) (a1 : AV) (h : Hp) :  Option β :=
effK (boxE 9 (.agg [.s (.int .i64 0), .s (.int .i64 0), .s (.int .i64 0), .s (.int .i64 0), .s (.int .i64 0), .s (.int .i64 0), .s (.int .i64 0), .s (.bool false), .s (.bool false)]) (List.length h)) h fun x1 h2 =>
cL2 ((upd (upd (tm0 [a0, a1]) 4 x1) 5 (.s (.int .i64 0))), h2)
noncomputable def o_journey_at (P : Program) (T : Tab) (D : DTab) (N : Nat) {β : Type} (K : AV → Hp → Option β) (a0 : AV) (a1 : AV) (h : Hp) : Option β := o_journey_at_G P T D N (fun s => iterK (fun s k => o_journey_at_L2 P T D N s.1 s.2 k) N s (o_journey_at_aL2 P T D N K)) K a0 a1 h
noncomputable def f_journey_at_j1 (P : Program) (T : Tab) (D : DTab) (N : Nat) {β : Type} (K : AV → Hp → Option β) (v0 : AV) (v4 : AV) (v5 : AV) (h : Hp) : Option β :=
sliceK 5 v0 none (some v5) none fun x3 =>
callK (T 17) [x3] h fun x4 h5 =>
exK x4 0 fun x6 =>
exK x4 1 fun x7 =>
exK x4 2 fun x8 =>
effK (boxE 9 (.agg [.s (.int .i64 0), .s (.int .i64 0), .s (.int .i64 0), .s (.int .i64 0), .s (.int .i64 0), .s (.int .i64 0), .s (.int .i64 0), .s (.bool false), .s (.bool false)]) (List.length h5)) h5 fun x9 h10 =>
effK (stE 9 x9 x6 h10) h10 fun x11 h12 =>
ldK 9 true x9 h12 fun x13 =>
effK (stE 9 v4 x13 h12) h12 fun x14 h15 =>
ldK 9 true v4 h15 fun r16 =>
K r16 h15
noncomputable def f_journey_at_b2 (P : Program) (T : Tab) (D : DTab) (N : Nat) {β : Type} (xn : AV → AV → AV → AV → Hp → Option β) (x0 : AV → AV → AV → Hp → Option β) (v0 : AV) (v1 : AV) (v4 : AV) (v5 : AV) (h : Hp) : Option β :=
lenK v0 fun x17 =>
arithK .lss v5 x17 fun x18 =>
grpK true x18 h (fun k19 =>
iaK 5 v0 v5 fun x20 =>
faK 0 x20 fun x21 =>
ldK 1 false x21 h fun x22 =>
arithK .leq x22 v1 fun x23 =>
k19 x23 h) fun x24 h25 =>
condK x24 (
arithK .add v5 (.s (.int .i64 1)) fun x26 =>
xn v0 v1 v4 x26 h25) (
x0 v0 v4 v5 h25)
noncomputable def f_journey_at_L2 (P : Program) (T : Tab) (D : DTab) (N : Nat) {β : Type} (x0 : AV → AV → AV → Hp → Option β) : Nat → AV → AV → AV → AV → Hp → Option β
  | 0 => fun _ _ _ _ _ => none
  | n + 1 => fun v0 v1 v4 v5 h => f_journey_at_b2 P T D N (f_journey_at_L2 P T D N x0 n) x0 v0 v1 v4 v5 h
noncomputable def f_journey_at (P : Program) (T : Tab) (D : DTab) (N : Nat) {β : Type} (K : AV → Hp → Option β) (a0 : AV) (a1 : AV) (h : Hp) : Option β :=
effK (boxE 9 (.agg [.s (.int .i64 0), .s (.int .i64 0), .s (.int .i64 0), .s (.int .i64 0), .s (.int .i64 0), .s (.int .i64 0), .s (.int .i64 0), .s (.bool false), .s (.bool false)]) (List.length h)) h fun x1 h2 =>
f_journey_at_L2 P T D N (fun w27_0 w27_4 w27_5 h => f_journey_at_j1 P T D N K w27_0 w27_4 w27_5 h) N a0 a1 x1 (.s (.int .i64 0)) h2
theorem f_journey_at_b2_eq (P : Program) (T : Tab) (D : DTab) (N : Nat) {β : Type} (xn : AV → AV → AV → AV → Hp → Option β) (x0 : AV → AV → AV → Hp → Option β) (xd : Nat → St → Option β) (xq : St → Option β) (t : Tm) (h : Hp) : o_journey_at_L2 P T D N t h (fun (e : Ex) (s : St) => e.on (xn (s.1 0) (s.1 1) (s.1 4) (s.1 5) s.2) (fun i => (bif i == 0 then x0 (s.1 0) (s.1 4) (s.1 5) s.2 else (xd i s))) (xq s)) = f_journey_at_b2 P T D N xn x0 (t 0) (t 1) (t 4) (t 5) h := by kernel_rfl
theorem f_journey_at_L2_eq (P : Program) (T : Tab) (D : DTab) (N : Nat) {β : Type} (A : Ex → St → Option β) (x0 : AV → AV → AV → Hp → Option β) (q0 : ∀ s, A (.exit 0) s = x0 (s.1 0) (s.1 4) (s.1 5) s.2) : ∀ (n : Nat) (s : St), iterK (fun s k => o_journey_at_L2 P T D N s.1 s.2 k) n s A = f_journey_at_L2 P T D N x0 n (s.1 0) (s.1 1) (s.1 4) (s.1 5) s.2 := by
  intro n
  induction n with
  | zero => intro s; rfl
  | succ n ih =>
    intro s
    have hk : (fun (e : Ex) (s' : St) => Ex.on e (iterK (fun s k => o_journey_at_L2 P T D N s.1 s.2 k) n s' A) (fun i => A (.exit i) s') (A .ret s')) = (fun (e : Ex) (s : St) => e.on ((f_journey_at_L2 P T D N x0 n) (s.1 0) (s.1 1) (s.1 4) (s.1 5) s.2) (fun i => (bif i == 0 then x0 (s.1 0) (s.1 4) (s.1 5) s.2 else (A (.exit i) s))) (A .ret s)) := by
      funext e s'
      cases e with
      | normal => exact ih s'
      | ret => exact rfl
      | exit i =>
        by_cases r0 : i = 0
        · subst r0; exact q0 s'
        simp only [Ex.on, beq_false_of_ne r0, cond_false]
    show o_journey_at_L2 P T D N s.1 s.2 (fun (e : Ex) (s' : St) => Ex.on e (iterK (fun s k => o_journey_at_L2 P T D N s.1 s.2 k) n s' A) (fun i => A (.exit i) s') (A .ret s')) = _
    rw [hk]
    exact f_journey_at_b2_eq P T D N (f_journey_at_L2 P T D N x0 n) x0 (fun i s => A (.exit i) s) (fun s => A .ret s) s.1 s.2
theorem f_journey_at_old_eq (P : Program) (T : Tab) (D : DTab) (N : Nat) {β : Type} (K : AV → Hp → Option β) (a0 : AV) (a1 : AV) (h : Hp) : o_journey_at P T D N K a0 a1 h = f_journey_at P T D N K a0 a1 h := by
  have eL2 : (fun s : St => iterK (fun s k => o_journey_at_L2 P T D N s.1 s.2 k) N s (o_journey_at_aL2 P T D N K)) = (fun s : St => f_journey_at_L2 P T D N (fun w27_0 w27_4 w27_5 h => f_journey_at_j1 P T D N K w27_0 w27_4 w27_5 h) N (s.1 0) (s.1 1) (s.1 4) (s.1 5) s.2) := funext fun s => f_journey_at_L2_eq P T D N (o_journey_at_aL2 P T D N K) (fun w27_0 w27_4 w27_5 h => f_journey_at_j1 P T D N K w27_0 w27_4 w27_5 h) (fun s => rfl) N s
  show o_journey_at_G P T D N (fun s => iterK (fun s k => o_journey_at_L2 P T D N s.1 s.2 k) N s (o_journey_at_aL2 P T D N K)) K a0 a1 h = _
  rw [eL2]
  kernel_rfl
theorem o_journey_at_run (T : Tab) (D : DTab) (N : Nat) {β : Type} (K : AV → Hp → Option β) (a0 : AV) (a1 : AV) (h : Hp) : runK Tryz.prog T D N [0, 1, 4, 5, 6, 21] Tryz.f40 K [a0, a1] h = o_journey_at Tryz.prog T D N K a0 a1 h := by kernel_rfl
theorem f_journey_at_run (T : Tab) (D : DTab) (N : Nat) {β : Type} (K : AV → Hp → Option β) (a0 : AV) (a1 : AV) (h : Hp) : runK Tryz.prog T D N [0, 1, 4, 5, 6, 21] Tryz.f40 K [a0, a1] h = f_journey_at Tryz.prog T D N K a0 a1 h := (o_journey_at_run T D N K a0 a1 h).trans (f_journey_at_old_eq Tryz.prog T D N K a0 a1 h)
noncomputable def f_season_in (P : Program) (T : Tab) (D : DTab) (N : Nat) {β : Type} (K : AV → Hp → Option β) (a0 : AV) (a1 : AV) (a2 : AV) (h : Hp) : Option β :=
arithK .geq a0 a1 fun x1 =>
grpK true x1 h (fun k2 =>
arithK .leq a0 a2 fun x3 =>
k2 x3 h) fun x4 h5 =>
K x4 h5
theorem f_season_in_run (T : Tab) (D : DTab) (N : Nat) {β : Type} (K : AV → Hp → Option β) (a0 : AV) (a1 : AV) (a2 : AV) (h : Hp) : runK Tryz.prog T D N [0, 1, 2, 6] Tryz.f41 K [a0, a1, a2] h = f_season_in Tryz.prog T D N K a0 a1 a2 h := by kernel_rfl
noncomputable def f_season_before (P : Program) (T : Tab) (D : DTab) (N : Nat) {β : Type} (K : AV → Hp → Option β) (a0 : AV) (a1 : AV) (h : Hp) : Option β :=
effK (boxE 4 a0 (List.length h)) h fun x1 h2 =>
effK (boxE 4 a1 (List.length h2)) h2 fun x3 h4 =>
faK 0 x1 fun x5 =>
ldK 1 false x5 h4 fun x6 =>
faK 0 x3 fun x7 =>
ldK 1 false x7 h4 fun x8 =>
eqK P true 3 x6 x8 h4 fun x9 =>
condK x9 (
faK 0 x1 fun x10 =>
ldK 1 false x10 h4 fun x11 =>
faK 0 x3 fun x12 =>
ldK 1 false x12 h4 fun x13 =>
arithK .lss x11 x13 fun x14 =>
K x14 h4) (
faK 1 x1 fun x15 =>
ldK 1 false x15 h4 fun x16 =>
faK 1 x3 fun x17 =>
ldK 1 false x17 h4 fun x18 =>
eqK P true 3 x16 x18 h4 fun x19 =>
condK x19 (
faK 1 x1 fun x20 =>
ldK 1 false x20 h4 fun x21 =>
faK 1 x3 fun x22 =>
ldK 1 false x22 h4 fun x23 =>
arithK .lss x21 x23 fun x24 =>
K x24 h4) (
faK 2 x1 fun x25 =>
ldK 1 false x25 h4 fun x26 =>
faK 2 x3 fun x27 =>
ldK 1 false x27 h4 fun x28 =>
arithK .lss x26 x28 fun x29 =>
K x29 h4))
theorem f_season_before_run (T : Tab) (D : DTab) (N : Nat) {β : Type} (K : AV → Hp → Option β) (a0 : AV) (a1 : AV) (h : Hp) : runK Tryz.prog T D N [0, 1, 2, 3, 4, 9, 19] Tryz.f42 K [a0, a1] h = f_season_before Tryz.prog T D N K a0 a1 h := by kernel_rfl
noncomputable def f_season_right (P : Program) (T : Tab) (D : DTab) (N : Nat) {β : Type} (K : AV → Hp → Option β) (a0 : AV) (h : Hp) : Option β :=
callK (T 27) [a0] h fun x1 h2 =>
exK x1 0 fun x3 =>
exK x1 1 fun x4 =>
eqK P false 28 x4 (.s (.int .i64 0)) h2 fun x5 =>
K x5 h2
theorem f_season_right_run (T : Tab) (D : DTab) (N : Nat) {β : Type} (K : AV → Hp → Option β) (a0 : AV) (h : Hp) : runK Tryz.prog T D N [0, 2, 4] Tryz.f43 K [a0] h = f_season_right Tryz.prog T D N K a0 h := by kernel_rfl
noncomputable def f_proportion_Of (P : Program) (T : Tab) (D : DTab) (N : Nat) {β : Type} (K : AV → Hp → Option β) (a0 : AV) (a1 : AV) (a2 : AV) (h : Hp) : Option β :=
effK (bsE 1 [.s (.int .i64 0)] 3 [(0, a0), (1, a1), (2, a2)] (List.length h)) h fun x1 h2 =>
callK (T 79) [x1] h2 fun x3 h4 =>
notK x3 fun x5 =>
condK x5 (
K (.tup [(.s (.int .i64 0)), (.s (.int .i64 0)), (.s (.int .i64 2))]) h4) (
eqK P false 3 a2 (.s (.int .i64 0)) h4 fun x6 =>
condK x6 (
K (.tup [(.s (.int .i64 0)), (.s (.int .i64 0)), (.s (.int .i64 16))]) h4) (
callK (T 80) [a0, a1, a2] h4 fun x7 h8 =>
exK x7 0 fun x9 =>
exK x7 1 fun x10 =>
exK x7 2 fun x11 =>
notK x11 fun x12 =>
condK x12 (
K (.tup [(.s (.int .i64 0)), (.s (.int .i64 0)), (.s (.int .i64 15))]) h8) (
K (.tup [x9, x10, (.s (.int .i64 0))]) h8)))
theorem f_proportion_Of_run (T : Tab) (D : DTab) (N : Nat) {β : Type} (K : AV → Hp → Option β) (a0 : AV) (a1 : AV) (a2 : AV) (h : Hp) : runK Tryz.prog T D N [0, 1, 2, 6, 7, 8, 9, 10, 11, 17, 19, 29] Tryz.f44 K [a0, a1, a2] h = f_proportion_Of Tryz.prog T D N K a0 a1 a2 h := by kernel_rfl
noncomputable def o_season_sum_j1 (P : Program) (T : Tab) (D : DTab) (N : Nat) {β : Type} (K : AV → Hp → Option β) (t : Tm) (h : Hp) : Option β :=
K (t 9) h
noncomputable def o_season_sum_j2 (P : Program) (T : Tab) (D : DTab) (N : Nat) {β : Type} (K : AV → Hp → Option β) (t : Tm) (h : Hp) : Option β :=
(o_season_sum_j1 P T D N K t h)
noncomputable def o_season_sum_L3 (P : Program) (T : Tab) (D : DTab) (N : Nat) {β : Type} (t : Tm) (h : Hp) (k : Ex → St → Option β) : Option β :=
arithK .lss (t 15) (t 14) fun x2 =>
condK x2 (
arithK .geq (t 2) (t 3) fun x3 =>
condK x3 (
k (.exit 0) ((upd (upd t 16 x2) 19 x3), h)) (
callK (T 81) [(t 0), (t 1), (t 2)] h fun x4 h5 =>
exK x4 0 fun x6 =>
exK x4 1 fun x7 =>
minK x7 (t 3) fun x8 =>
arithK .sub x8 (t 2) fun x9 =>
arithK .mul x6 x9 fun x10 =>
arithK .add (t 9) x10 fun x11 =>
arithK .add (t 15) (.s (.int .i64 1)) fun x12 =>
k .normal ((upd (upd (upd (upd (upd (upd (upd (upd t 16 x2) 19 x3) 10 x6) 11 x7) 11 x8) 9 x11) 2 x8) 15 x12), h5))) (
k (.exit 0) ((upd t 16 x2), h))
noncomputable def o_season_sum_aL3 (P : Program) (T : Tab) (D : DTab) (N : Nat) {β : Type} (K : AV → Hp → Option β) (e : Ex) (s : St) : Option β :=
  e.on ((o_season_sum_j2 P T D N K s.1 s.2))
  (fun i => bif i == 0 then ((o_season_sum_j2 P T D N K s.1 s.2)) else (none))
  (K (s.1 8) s.2)
noncomputable def o_season_sum_G (P : Program) (T : Tab) (D : DTab) (N : Nat) {β : Type} (cL3 : St → Option β) (K : AV → Hp → Option β) (a0 : AV) (a1 : AV) (a2 : AV) (a3 : AV) (h : Hp) :  Option β :=
arithK .sub a3 a2 fun x1 =>
cL3 ((upd (upd (upd (upd (tm0 [a0, a1, a2, a3]) 8 (.s (.int .i64 0))) 9 (.s (.int .i64 0))) 14 x1) 15 (.s (.int .i64 0))), h)
noncomputable def o_season_sum (P : Program) (T : Tab) (D : DTab) (N : Nat) {β : Type} (K : AV → Hp → Option β) (a0 : AV) (a1 : AV) (a2 : AV) (a3 : AV) (h : Hp) : Option β := o_season_sum_G P T D N (fun s => iterK (fun s k => o_season_sum_L3 P T D N s.1 s.2 k) N s (o_season_sum_aL3 P T D N K)) K a0 a1 a2 a3 h
noncomputable def f_season_sum_j1 (P : Program) (T : Tab) (D : DTab) (N : Nat) {β : Type} (K : AV → Hp → Option β) (v9 : AV) (h : Hp) : Option β :=
K v9 h
noncomputable def f_season_sum_j2 (P : Program) (T : Tab) (D : DTab) (N : Nat) {β : Type} (K : AV → Hp → Option β) (v9 : AV) (h : Hp) : Option β :=
f_season_sum_j1 P T D N K v9 h
noncomputable def f_season_sum_b3 (P : Program) (T : Tab) (D : DTab) (N : Nat) {β : Type} (xn : AV → AV → AV → AV → AV → AV → AV → Hp → Option β) (x0 : AV → Hp → Option β) (v0 : AV) (v1 : AV) (v2 : AV) (v3 : AV) (v9 : AV) (v14 : AV) (v15 : AV) (h : Hp) : Option β :=
arithK .lss v15 v14 fun x2 =>
condK x2 (
arithK .geq v2 v3 fun x3 =>
condK x3 (
x0 v9 h) (
callK (T 81) [v0, v1, v2] h fun x4 h5 =>
exK x4 0 fun x6 =>
exK x4 1 fun x7 =>
minK x7 v3 fun x8 =>
arithK .sub x8 v2 fun x9 =>
arithK .mul x6 x9 fun x10 =>
arithK .add v9 x10 fun x11 =>
arithK .add v15 (.s (.int .i64 1)) fun x12 =>
xn v0 v1 x8 v3 x11 v14 x12 h5)) (
x0 v9 h)
noncomputable def f_season_sum_L3 (P : Program) (T : Tab) (D : DTab) (N : Nat) {β : Type} (x0 : AV → Hp → Option β) : Nat → AV → AV → AV → AV → AV → AV → AV → Hp → Option β
  | 0 => fun _ _ _ _ _ _ _ _ => none
  | n + 1 => fun v0 v1 v2 v3 v9 v14 v15 h => f_season_sum_b3 P T D N (f_season_sum_L3 P T D N x0 n) x0 v0 v1 v2 v3 v9 v14 v15 h
noncomputable def f_season_sum (P : Program) (T : Tab) (D : DTab) (N : Nat) {β : Type} (K : AV → Hp → Option β) (a0 : AV) (a1 : AV) (a2 : AV) (a3 : AV) (h : Hp) : Option β :=
arithK .sub a3 a2 fun x1 =>
f_season_sum_L3 P T D N (fun w13_9 h => f_season_sum_j2 P T D N K w13_9 h) N a0 a1 a2 a3 (.s (.int .i64 0)) x1 (.s (.int .i64 0)) h
theorem f_season_sum_b3_eq (P : Program) (T : Tab) (D : DTab) (N : Nat) {β : Type} (xn : AV → AV → AV → AV → AV → AV → AV → Hp → Option β) (x0 : AV → Hp → Option β) (xd : Nat → St → Option β) (xq : St → Option β) (t : Tm) (h : Hp) : o_season_sum_L3 P T D N t h (fun (e : Ex) (s : St) => e.on (xn (s.1 0) (s.1 1) (s.1 2) (s.1 3) (s.1 9) (s.1 14) (s.1 15) s.2) (fun i => (bif i == 0 then x0 (s.1 9) s.2 else (xd i s))) (xq s)) = f_season_sum_b3 P T D N xn x0 (t 0) (t 1) (t 2) (t 3) (t 9) (t 14) (t 15) h := by kernel_rfl
theorem f_season_sum_L3_eq (P : Program) (T : Tab) (D : DTab) (N : Nat) {β : Type} (A : Ex → St → Option β) (x0 : AV → Hp → Option β) (q0 : ∀ s, A (.exit 0) s = x0 (s.1 9) s.2) : ∀ (n : Nat) (s : St), iterK (fun s k => o_season_sum_L3 P T D N s.1 s.2 k) n s A = f_season_sum_L3 P T D N x0 n (s.1 0) (s.1 1) (s.1 2) (s.1 3) (s.1 9) (s.1 14) (s.1 15) s.2 := by
  intro n
  induction n with
  | zero => intro s; rfl
  | succ n ih =>
    intro s
    have hk : (fun (e : Ex) (s' : St) => Ex.on e (iterK (fun s k => o_season_sum_L3 P T D N s.1 s.2 k) n s' A) (fun i => A (.exit i) s') (A .ret s')) = (fun (e : Ex) (s : St) => e.on ((f_season_sum_L3 P T D N x0 n) (s.1 0) (s.1 1) (s.1 2) (s.1 3) (s.1 9) (s.1 14) (s.1 15) s.2) (fun i => (bif i == 0 then x0 (s.1 9) s.2 else (A (.exit i) s))) (A .ret s)) := by
      funext e s'
      cases e with
      | normal => exact ih s'
      | ret => exact rfl
      | exit i =>
        by_cases r0 : i = 0
        · subst r0; exact q0 s'
        simp only [Ex.on, beq_false_of_ne r0, cond_false]
    show o_season_sum_L3 P T D N s.1 s.2 (fun (e : Ex) (s' : St) => Ex.on e (iterK (fun s k => o_season_sum_L3 P T D N s.1 s.2 k) n s' A) (fun i => A (.exit i) s') (A .ret s')) = _
    rw [hk]
    exact f_season_sum_b3_eq P T D N (f_season_sum_L3 P T D N x0 n) x0 (fun i s => A (.exit i) s) (fun s => A .ret s) s.1 s.2
theorem f_season_sum_old_eq (P : Program) (T : Tab) (D : DTab) (N : Nat) {β : Type} (K : AV → Hp → Option β) (a0 : AV) (a1 : AV) (a2 : AV) (a3 : AV) (h : Hp) : o_season_sum P T D N K a0 a1 a2 a3 h = f_season_sum P T D N K a0 a1 a2 a3 h := by
  have eL3 : (fun s : St => iterK (fun s k => o_season_sum_L3 P T D N s.1 s.2 k) N s (o_season_sum_aL3 P T D N K)) = (fun s : St => f_season_sum_L3 P T D N (fun w13_9 h => f_season_sum_j2 P T D N K w13_9 h) N (s.1 0) (s.1 1) (s.1 2) (s.1 3) (s.1 9) (s.1 14) (s.1 15) s.2) := funext fun s => f_season_sum_L3_eq P T D N (o_season_sum_aL3 P T D N K) (fun w13_9 h => f_season_sum_j2 P T D N K w13_9 h) (fun s => rfl) N s
  show o_season_sum_G P T D N (fun s => iterK (fun s k => o_season_sum_L3 P T D N s.1 s.2 k) N s (o_season_sum_aL3 P T D N K)) K a0 a1 a2 a3 h = _
  rw [eL3]
  kernel_rfl
theorem o_season_sum_run (T : Tab) (D : DTab) (N : Nat) {β : Type} (K : AV → Hp → Option β) (a0 : AV) (a1 : AV) (a2 : AV) (a3 : AV) (h : Hp) : runK Tryz.prog T D N [0, 1, 2, 3, 8, 9, 10, 11, 14, 15, 16, 19] Tryz.f45 K [a0, a1, a2, a3] h = o_season_sum Tryz.prog T D N K a0 a1 a2 a3 h := by kernel_rfl
theorem f_season_sum_run (T : Tab) (D : DTab) (N : Nat) {β : Type} (K : AV → Hp → Option β) (a0 : AV) (a1 : AV) (a2 : AV) (a3 : AV) (h : Hp) : runK Tryz.prog T D N [0, 1, 2, 3, 8, 9, 10, 11, 14, 15, 16, 19] Tryz.f45 K [a0, a1, a2, a3] h = f_season_sum Tryz.prog T D N K a0 a1 a2 a3 h := (o_season_sum_run T D N K a0 a1 a2 a3 h).trans (f_season_sum_old_eq Tryz.prog T D N K a0 a1 a2 a3 h)
noncomputable def o_loss_amount_j1 (P : Program) (T : Tab) (D : DTab) (N : Nat) {β : Type} (K : AV → Hp → Option β) (t : Tm) (h : Hp) : Option β :=
K (.s (.bool true)) h
noncomputable def o_loss_amount_L2 (P : Program) (T : Tab) (D : DTab) (N : Nat) {β : Type} (t : Tm) (h : Hp) (k : Ex → St → Option β) : Option β :=
arithK .lss (t 7) (t 6) fun x2 =>
condK x2 (
iaK 1 (t 5) (t 7) fun x3 =>
ldK 1 false x3 h fun x4 =>
arithK .lss x4 (.s (.int .i64 0)) fun x5 =>
grpK false x5 h (fun k6 =>
arithK .gtr x4 (.s (.int .i64 10737418240000)) fun x7 =>
k6 x7 h) fun x8 h9 =>
condK x8 (
k .ret ((upd (upd (upd (upd t 8 x2) 4 x4) 16 x8) 2 (.s (.bool false))), h9)) (
arithK .add (t 7) (.s (.int .i64 1)) fun x10 =>
k .normal ((upd (upd (upd (upd t 8 x2) 4 x4) 16 x8) 7 x10), h9))) (
k (.exit 0) ((upd t 8 x2), h))
noncomputable def o_loss_amount_aL2 (P : Program) (T : Tab) (D : DTab) (N : Nat) {β : Type} (K : AV → Hp → Option β) (e : Ex) (s : St) : Option β :=
  e.on ((o_loss_amount_j1 P T D N K s.1 s.2))
  (fun i => bif i == 0 then ((o_loss_amount_j1 P T D N K s.1 s.2)) else (none))
  (K (s.1 2) s.2)
noncomputable def o_loss_amount_G (P : Program) (T : Tab) (D : DTab) (N : Nat) {β : Type} (cL2 : St → Option β) (K : AV → Hp → Option β) (a0 : AV) (h : Hp) :  Option β :=
lenK a0 fun x1 =>
cL2 ((upd (upd (upd (upd (tm0 [a0]) 2 (.s (.bool false))) 5 a0) 6 x1) 7 (.s (.int .i64 0))), h)
noncomputable def o_loss_amount (P : Program) (T : Tab) (D : DTab) (N : Nat) {β : Type} (K : AV → Hp → Option β) (a0 : AV) (h : Hp) : Option β := o_loss_amount_G P T D N (fun s => iterK (fun s k => o_loss_amount_L2 P T D N s.1 s.2 k) N s (o_loss_amount_aL2 P T D N K)) K a0 h
noncomputable def f_loss_amount_j1 (P : Program) (T : Tab) (D : DTab) (N : Nat) {β : Type} (K : AV → Hp → Option β) (h : Hp) : Option β :=
K (.s (.bool true)) h
noncomputable def f_loss_amount_b2 (P : Program) (T : Tab) (D : DTab) (N : Nat) {β : Type} (xn : AV → AV → AV → Hp → Option β) (x0 : Hp → Option β) (xr : AV → Hp → Option β) (v5 : AV) (v6 : AV) (v7 : AV) (h : Hp) : Option β :=
arithK .lss v7 v6 fun x2 =>
condK x2 (
iaK 1 v5 v7 fun x3 =>
ldK 1 false x3 h fun x4 =>
arithK .lss x4 (.s (.int .i64 0)) fun x5 =>
grpK false x5 h (fun k6 =>
arithK .gtr x4 (.s (.int .i64 10737418240000)) fun x7 =>
k6 x7 h) fun x8 h9 =>
condK x8 (
xr (.s (.bool false)) h9) (
arithK .add v7 (.s (.int .i64 1)) fun x10 =>
xn v5 v6 x10 h9)) (
x0 h)
noncomputable def f_loss_amount_L2 (P : Program) (T : Tab) (D : DTab) (N : Nat) {β : Type} (x0 : Hp → Option β) (xr : AV → Hp → Option β) : Nat → AV → AV → AV → Hp → Option β
  | 0 => fun _ _ _ _ => none
  | n + 1 => fun v5 v6 v7 h => f_loss_amount_b2 P T D N (f_loss_amount_L2 P T D N x0 xr n) x0 xr v5 v6 v7 h
noncomputable def f_loss_amount (P : Program) (T : Tab) (D : DTab) (N : Nat) {β : Type} (K : AV → Hp → Option β) (a0 : AV) (h : Hp) : Option β :=
lenK a0 fun x1 =>
f_loss_amount_L2 P T D N (fun h => f_loss_amount_j1 P T D N K h) (fun w12_2 h => K w12_2 h) N a0 x1 (.s (.int .i64 0)) h
theorem f_loss_amount_b2_eq (P : Program) (T : Tab) (D : DTab) (N : Nat) {β : Type} (xn : AV → AV → AV → Hp → Option β) (x0 : Hp → Option β) (xr : AV → Hp → Option β) (xd : Nat → St → Option β) (xq : St → Option β) (t : Tm) (h : Hp) : o_loss_amount_L2 P T D N t h (fun (e : Ex) (s : St) => e.on (xn (s.1 5) (s.1 6) (s.1 7) s.2) (fun i => (bif i == 0 then x0 s.2 else (xd i s))) (xr (s.1 2) s.2)) = f_loss_amount_b2 P T D N xn x0 xr (t 5) (t 6) (t 7) h := by kernel_rfl
theorem f_loss_amount_L2_eq (P : Program) (T : Tab) (D : DTab) (N : Nat) {β : Type} (A : Ex → St → Option β) (x0 : Hp → Option β) (xr : AV → Hp → Option β) (q0 : ∀ s, A (.exit 0) s = x0 s.2) (qr : ∀ s, A .ret s = xr (s.1 2) s.2) : ∀ (n : Nat) (s : St), iterK (fun s k => o_loss_amount_L2 P T D N s.1 s.2 k) n s A = f_loss_amount_L2 P T D N x0 xr n (s.1 5) (s.1 6) (s.1 7) s.2 := by
  intro n
  induction n with
  | zero => intro s; rfl
  | succ n ih =>
    intro s
    have hk : (fun (e : Ex) (s' : St) => Ex.on e (iterK (fun s k => o_loss_amount_L2 P T D N s.1 s.2 k) n s' A) (fun i => A (.exit i) s') (A .ret s')) = (fun (e : Ex) (s : St) => e.on ((f_loss_amount_L2 P T D N x0 xr n) (s.1 5) (s.1 6) (s.1 7) s.2) (fun i => (bif i == 0 then x0 s.2 else (A (.exit i) s))) (xr (s.1 2) s.2)) := by
      funext e s'
      cases e with
      | normal => exact ih s'
      | ret => exact qr s'
      | exit i =>
        by_cases r0 : i = 0
        · subst r0; exact q0 s'
        simp only [Ex.on, beq_false_of_ne r0, cond_false]
    show o_loss_amount_L2 P T D N s.1 s.2 (fun (e : Ex) (s' : St) => Ex.on e (iterK (fun s k => o_loss_amount_L2 P T D N s.1 s.2 k) n s' A) (fun i => A (.exit i) s') (A .ret s')) = _
    rw [hk]
    exact f_loss_amount_b2_eq P T D N (f_loss_amount_L2 P T D N x0 xr n) x0 xr (fun i s => A (.exit i) s) (fun s => A .ret s) s.1 s.2
theorem f_loss_amount_old_eq (P : Program) (T : Tab) (D : DTab) (N : Nat) {β : Type} (K : AV → Hp → Option β) (a0 : AV) (h : Hp) : o_loss_amount P T D N K a0 h = f_loss_amount P T D N K a0 h := by
  have eL2 : (fun s : St => iterK (fun s k => o_loss_amount_L2 P T D N s.1 s.2 k) N s (o_loss_amount_aL2 P T D N K)) = (fun s : St => f_loss_amount_L2 P T D N (fun h => f_loss_amount_j1 P T D N K h) (fun w12_2 h => K w12_2 h) N (s.1 5) (s.1 6) (s.1 7) s.2) := funext fun s => f_loss_amount_L2_eq P T D N (o_loss_amount_aL2 P T D N K) (fun h => f_loss_amount_j1 P T D N K h) (fun w12_2 h => K w12_2 h) (fun s => rfl) (fun s => rfl) N s
  show o_loss_amount_G P T D N (fun s => iterK (fun s k => o_loss_amount_L2 P T D N s.1 s.2 k) N s (o_loss_amount_aL2 P T D N K)) K a0 h = _
  rw [eL2]
  kernel_rfl
theorem o_loss_amount_run (T : Tab) (D : DTab) (N : Nat) {β : Type} (K : AV → Hp → Option β) (a0 : AV) (h : Hp) : runK Tryz.prog T D N [0, 2, 4, 5, 6, 7, 8, 16] Tryz.f46 K [a0] h = o_loss_amount Tryz.prog T D N K a0 h := by kernel_rfl
theorem f_loss_amount_run (T : Tab) (D : DTab) (N : Nat) {β : Type} (K : AV → Hp → Option β) (a0 : AV) (h : Hp) : runK Tryz.prog T D N [0, 2, 4, 5, 6, 7, 8, 16] Tryz.f46 K [a0] h = f_loss_amount Tryz.prog T D N K a0 h := (o_loss_amount_run T D N K a0 h).trans (f_loss_amount_old_eq Tryz.prog T D N K a0 h)
noncomputable def f_loss_split (P : Program) (T : Tab) (D : DTab) (N : Nat) {β : Type} (K : AV → Hp → Option β) (a0 : AV) (a1 : AV) (a2 : AV) (a3 : AV) (h : Hp) : Option β :=
effK (boxE 4 (.agg [.s (.int .i64 0), .s (.int .i64 0), .s (.int .i64 0), .s (.int .i64 0)]) (List.length h)) h fun x1 h2 =>
arithK .gtr a1 a0 fun x3 =>
condK x3 (
arithK .sub a1 a0 fun x4 =>
buildK [.s (.int .i64 0), .s (.int .i64 0), .s (.int .i64 0), .s (.int .i64 0)] [(some (3, 1), x4)] fun x5 =>
effK (stE 4 x1 x5 h2) h2 fun x6 h7 =>
ldK 4 true x1 h7 fun r8 =>
K r8 h7) (
arithK .sub a0 a1 fun x9 =>
effK (boxE 1 (.s (.int .i64 0)) (List.length h2)) h2 fun x10 h11 =>
effK (stE 1 x10 x9 h11) h11 fun x12 h13 =>
callVK T (.fn 82 [x10]) [a2] h13 fun x14 h15 =>
buildK [.s (.int .i64 0), .s (.int .i64 0), .s (.int .i64 0), .s (.int .i64 0)] [(some (0, 1), x14)] fun x16 =>
effK (boxE 4 (.agg [.s (.int .i64 0), .s (.int .i64 0), .s (.int .i64 0), .s (.int .i64 0)]) (List.length h15)) h15 fun x17 h18 =>
effK (stE 4 x17 x16 h18) h18 fun x19 h20 =>
callVK T (.fn 82 [x10]) [a3] h20 fun x21 h22 =>
faK 1 x17 fun x23 =>
effK (stE 1 x23 x21 h22) h22 fun x24 h25 =>
ldK 1 false x10 h25 fun x26 =>
faK 2 x17 fun x27 =>
effK (stE 1 x27 x26 h25) h25 fun x28 h29 =>
ldK 4 true x17 h29 fun x30 =>
effK (stE 4 x1 x30 h29) h29 fun x31 h32 =>
ldK 4 true x1 h32 fun r33 =>
K r33 h32)
theorem f_loss_split_run (T : Tab) (D : DTab) (N : Nat) {β : Type} (K : AV → Hp → Option β) (a0 : AV) (a1 : AV) (a2 : AV) (a3 : AV) (h : Hp) : runK Tryz.prog T D N [0, 1, 2, 3, 8, 9, 10, 11, 14] Tryz.f47 K [a0, a1, a2, a3] h = f_loss_split Tryz.prog T D N K a0 a1 a2 a3 h := by kernel_rfl
noncomputable def f_journey_table_1 (P : Program) (T : Tab) (D : DTab) (N : Nat) {β : Type} (K : AV → Hp → Option β) (a0 : AV) (h : Hp) : Option β :=
effK (boxE 9 a0 (List.length h)) h fun x1 h2 =>
K (.s (.bool false)) h2
theorem f_journey_table_1_run (T : Tab) (D : DTab) (N : Nat) {β : Type} (K : AV → Hp → Option β) (a0 : AV) (h : Hp) : runK Tryz.prog T D N [0, 2] Tryz.f54 K [a0] h = f_journey_table_1 Tryz.prog T D N K a0 h := by kernel_rfl
noncomputable def f_journey_table_2 (P : Program) (T : Tab) (D : DTab) (N : Nat) {β : Type} (K : AV → Hp → Option β) (a0 : AV) (h : Hp) : Option β :=
effK (boxE 9 a0 (List.length h)) h fun x1 h2 =>
faK 7 x1 fun x3 =>
ldK 1 false x3 h2 fun x4 =>
K x4 h2
theorem f_journey_table_2_run (T : Tab) (D : DTab) (N : Nat) {β : Type} (K : AV → Hp → Option β) (a0 : AV) (h : Hp) : runK Tryz.prog T D N [0, 1, 2] Tryz.f55 K [a0] h = f_journey_table_2 Tryz.prog T D N K a0 h := by kernel_rfl
noncomputable def f_journey_table_3 (P : Program) (T : Tab) (D : DTab) (N : Nat) {β : Type} (K : AV → Hp → Option β) (a0 : AV) (h : Hp) : Option β :=
effK (boxE 5 a0 (List.length h)) h fun x1 h2 =>
faK 2 x1 fun x3 =>
ldK 1 false x3 h2 fun x4 =>
eqK P false 3 x4 (.s (.int .i64 0)) h2 fun x5 =>
grpK true x5 h2 (fun k6 =>
faK 3 x1 fun x7 =>
ldK 1 false x7 h2 fun x8 =>
eqK P false 3 x8 (.s (.int .i64 0)) h2 fun x9 =>
k6 x9 h2) fun x10 h11 =>
grpK true x10 h11 (fun k12 =>
faK 4 x1 fun x13 =>
ldK 1 false x13 h11 fun x14 =>
callK (T 24) [x14, (.s (.int .i64 1)), (.s (.int .i64 10737418240000))] h11 fun x15 h16 =>
k12 x15 h16) fun x17 h18 =>
K x17 h18
theorem f_journey_table_3_run (T : Tab) (D : DTab) (N : Nat) {β : Type} (K : AV → Hp → Option β) (a0 : AV) (h : Hp) : runK Tryz.prog T D N [0, 1, 2] Tryz.f56 K [a0] h = f_journey_table_3 Tryz.prog T D N K a0 h := by kernel_rfl
noncomputable def f_journey_table_4 (P : Program) (T : Tab) (D : DTab) (N : Nat) {β : Type} (K : AV → Hp → Option β) (a0 : AV) (h : Hp) : Option β :=
effK (boxE 5 a0 (List.length h)) h fun x1 h2 =>
faK 2 x1 fun x3 =>
ldK 1 false x3 h2 fun x4 =>
callK (T 58) [x4] h2 fun x5 h6 =>
grpK true x5 h6 (fun k7 =>
faK 3 x1 fun x8 =>
ldK 1 false x8 h6 fun x9 =>
callK (T 58) [x9] h6 fun x10 h11 =>
k7 x10 h11) fun x12 h13 =>
grpK true x12 h13 (fun k14 =>
faK 2 x1 fun x15 =>
ldK 1 false x15 h13 fun x16 =>
faK 3 x1 fun x17 =>
ldK 1 false x17 h13 fun x18 =>
eqK P true 3 x16 x18 h13 fun x19 =>
k14 x19 h13) fun x20 h21 =>
grpK true x20 h21 (fun k22 =>
faK 4 x1 fun x23 =>
ldK 1 false x23 h21 fun x24 =>
callK (T 24) [x24, (.s (.int .i64 1)), (.s (.int .i64 10737418240000))] h21 fun x25 h26 =>
k22 x25 h26) fun x27 h28 =>
K x27 h28
theorem f_journey_table_4_run (T : Tab) (D : DTab) (N : Nat) {β : Type} (K : AV → Hp → Option β) (a0 : AV) (h : Hp) : runK Tryz.prog T D N [0, 1, 2] Tryz.f57 K [a0] h = f_journey_table_4 Tryz.prog T D N K a0 h := by kernel_rfl
noncomputable def f_journey_node (P : Program) (T : Tab) (D : DTab) (N : Nat) {β : Type} (K : AV → Hp → Option β) (a0 : AV) (h : Hp) : Option β :=
callK (T 24) [a0, (.s (.int .i64 1)), (.s (.int .i64 99))] h fun x1 h2 =>
K x1 h2
theorem f_journey_node_run (T : Tab) (D : DTab) (N : Nat) {β : Type} (K : AV → Hp → Option β) (a0 : AV) (h : Hp) : runK Tryz.prog T D N [0, 2] Tryz.f58 K [a0] h = f_journey_node Tryz.prog T D N K a0 h := by kernel_rfl
noncomputable def f_journey_table_5 (P : Program) (T : Tab) (D : DTab) (N : Nat) {β : Type} (K : AV → Hp → Option β) (a0 : AV) (a1 : AV) (h : Hp) : Option β :=
effK (boxE 5 a1 (List.length h)) h fun x1 h2 =>
faK 4 x1 fun x3 =>
ldK 1 false x3 h2 fun x4 =>
faK 4 x1 fun x5 =>
ldK 1 false x5 h2 fun x6 =>
faK 2 x1 fun x7 =>
ldK 1 false x7 h2 fun x8 =>
faK 3 x1 fun x9 =>
ldK 1 false x9 h2 fun x10 =>
buildK [.s (.int .i64 0), .s (.int .i64 0), .s (.int .i64 0), .s (.int .i64 0), .s (.int .i64 0), .s (.int .i64 0), .s (.int .i64 0), .s (.bool false), .s (.bool false)] [(some (0, 1), x4), (some (4, 1), x6), (some (5, 1), x8), (some (6, 1), x10)] fun x11 =>
nilK a0 fun x12 =>
effK (stE 9 x12 x11 h2) h2 fun x13 h14 =>
K (.tup []) h14
theorem f_journey_table_5_run (T : Tab) (D : DTab) (N : Nat) {β : Type} (K : AV → Hp → Option β) (a0 : AV) (a1 : AV) (h : Hp) : runK Tryz.prog T D N [0, 1, 3] Tryz.f59 K [a0, a1] h = f_journey_table_5 Tryz.prog T D N K a0 a1 h := by kernel_rfl
noncomputable def f_journey_table_6 (P : Program) (T : Tab) (D : DTab) (N : Nat) {β : Type} (K : AV → Hp → Option β) (a0 : AV) (h : Hp) : Option β :=
effK (boxE 5 a0 (List.length h)) h fun x1 h2 =>
faK 2 x1 fun x3 =>
ldK 1 false x3 h2 fun x4 =>
callK (T 58) [x4] h2 fun x5 h6 =>
grpK true x5 h6 (fun k7 =>
faK 3 x1 fun x8 =>
ldK 1 false x8 h6 fun x9 =>
eqK P false 3 x9 (.s (.int .i64 0)) h6 fun x10 =>
k7 x10 h6) fun x11 h12 =>
grpK true x11 h12 (fun k13 =>
faK 4 x1 fun x14 =>
ldK 1 false x14 h12 fun x15 =>
eqK P false 3 x15 (.s (.int .i64 0)) h12 fun x16 =>
k13 x16 h12) fun x17 h18 =>
K x17 h18
theorem f_journey_table_6_run (T : Tab) (D : DTab) (N : Nat) {β : Type} (K : AV → Hp → Option β) (a0 : AV) (h : Hp) : runK Tryz.prog T D N [0, 1, 2] Tryz.f60 K [a0] h = f_journey_table_6 Tryz.prog T D N K a0 h := by kernel_rfl
noncomputable def f_journey_table_7 (P : Program) (T : Tab) (D : DTab) (N : Nat) {β : Type} (K : AV → Hp → Option β) (a0 : AV) (a1 : AV) (h : Hp) : Option β :=
effK (boxE 5 a1 (List.length h)) h fun x1 h2 =>
nilK a0 fun x3 =>
faK 7 x3 fun x4 =>
effK (stE 1 x4 (.s (.bool true)) h2) h2 fun x5 h6 =>
K (.tup []) h6
theorem f_journey_table_7_run (T : Tab) (D : DTab) (N : Nat) {β : Type} (K : AV → Hp → Option β) (a0 : AV) (a1 : AV) (h : Hp) : runK Tryz.prog T D N [0, 1] Tryz.f61 K [a0, a1] h = f_journey_table_7 Tryz.prog T D N K a0 a1 h := by kernel_rfl
noncomputable def f_journey_table_8 (P : Program) (T : Tab) (D : DTab) (N : Nat) {β : Type} (K : AV → Hp → Option β) (a0 : AV) (h : Hp) : Option β :=
effK (boxE 5 a0 (List.length h)) h fun x1 h2 =>
faK 2 x1 fun x3 =>
ldK 1 false x3 h2 fun x4 =>
eqK P false 3 x4 (.s (.int .i64 0)) h2 fun x5 =>
grpK true x5 h2 (fun k6 =>
faK 3 x1 fun x7 =>
ldK 1 false x7 h2 fun x8 =>
eqK P false 3 x8 (.s (.int .i64 0)) h2 fun x9 =>
k6 x9 h2) fun x10 h11 =>
grpK true x10 h11 (fun k12 =>
faK 4 x1 fun x13 =>
ldK 1 false x13 h11 fun x14 =>
eqK P false 3 x14 (.s (.int .i64 0)) h11 fun x15 =>
k12 x15 h11) fun x16 h17 =>
K x16 h17
theorem f_journey_table_8_run (T : Tab) (D : DTab) (N : Nat) {β : Type} (K : AV → Hp → Option β) (a0 : AV) (h : Hp) : runK Tryz.prog T D N [0, 1, 2] Tryz.f62 K [a0] h = f_journey_table_8 Tryz.prog T D N K a0 h := by kernel_rfl
noncomputable def f_journey_table_9 (P : Program) (T : Tab) (D : DTab) (N : Nat) {β : Type} (K : AV → Hp → Option β) (a0 : AV) (h : Hp) : Option β :=
effK (boxE 9 a0 (List.length h)) h fun x1 h2 =>
faK 7 x1 fun x3 =>
ldK 1 false x3 h2 fun x4 =>
notK x4 fun x5 =>
K x5 h2
theorem f_journey_table_9_run (T : Tab) (D : DTab) (N : Nat) {β : Type} (K : AV → Hp → Option β) (a0 : AV) (h : Hp) : runK Tryz.prog T D N [0, 1, 2] Tryz.f63 K [a0] h = f_journey_table_9 Tryz.prog T D N K a0 h := by kernel_rfl
noncomputable def f_journey_table_10 (P : Program) (T : Tab) (D : DTab) (N : Nat) {β : Type} (K : AV → Hp → Option β) (a0 : AV) (a1 : AV) (h : Hp) : Option β :=
effK (boxE 5 a1 (List.length h)) h fun x1 h2 =>
nilK a0 fun x3 =>
faK 7 x3 fun x4 =>
effK (stE 1 x4 (.s (.bool false)) h2) h2 fun x5 h6 =>
K (.tup []) h6
theorem f_journey_table_10_run (T : Tab) (D : DTab) (N : Nat) {β : Type} (K : AV → Hp → Option β) (a0 : AV) (a1 : AV) (h : Hp) : runK Tryz.prog T D N [0, 1] Tryz.f64 K [a0, a1] h = f_journey_table_10 Tryz.prog T D N K a0 a1 h := by kernel_rfl
noncomputable def f_journey_table_11 (P : Program) (T : Tab) (D : DTab) (N : Nat) {β : Type} (K : AV → Hp → Option β) (a0 : AV) (h : Hp) : Option β :=
effK (boxE 5 a0 (List.length h)) h fun x1 h2 =>
faK 2 x1 fun x3 =>
ldK 1 false x3 h2 fun x4 =>
eqK P false 3 x4 (.s (.int .i64 0)) h2 fun x5 =>
grpK true x5 h2 (fun k6 =>
faK 3 x1 fun x7 =>
ldK 1 false x7 h2 fun x8 =>
callK (T 58) [x8] h2 fun x9 h10 =>
k6 x9 h10) fun x11 h12 =>
grpK true x11 h12 (fun k13 =>
faK 4 x1 fun x14 =>
ldK 1 false x14 h12 fun x15 =>
eqK P false 3 x15 (.s (.int .i64 0)) h12 fun x16 =>
k13 x16 h12) fun x17 h18 =>
K x17 h18
theorem f_journey_table_11_run (T : Tab) (D : DTab) (N : Nat) {β : Type} (K : AV → Hp → Option β) (a0 : AV) (h : Hp) : runK Tryz.prog T D N [0, 1, 2] Tryz.f65 K [a0] h = f_journey_table_11 Tryz.prog T D N K a0 h := by kernel_rfl
noncomputable def f_journey_table_12 (P : Program) (T : Tab) (D : DTab) (N : Nat) {β : Type} (K : AV → Hp → Option β) (a0 : AV) (a1 : AV) (h : Hp) : Option β :=
effK (boxE 5 a1 (List.length h)) h fun x1 h2 =>
faK 3 x1 fun x3 =>
ldK 1 false x3 h2 fun x4 =>
nilK a0 fun x5 =>
faK 6 x5 fun x6 =>
effK (stE 1 x6 x4 h2) h2 fun x7 h8 =>
K (.tup []) h8
theorem f_journey_table_12_run (T : Tab) (D : DTab) (N : Nat) {β : Type} (K : AV → Hp → Option β) (a0 : AV) (a1 : AV) (h : Hp) : runK Tryz.prog T D N [0, 1, 3] Tryz.f66 K [a0, a1] h = f_journey_table_12 Tryz.prog T D N K a0 a1 h := by kernel_rfl
noncomputable def f_journey_table_13 (P : Program) (T : Tab) (D : DTab) (N : Nat) {β : Type} (K : AV → Hp → Option β) (a0 : AV) (a1 : AV) (h : Hp) : Option β :=
effK (boxE 5 a1 (List.length h)) h fun x1 h2 =>
nilK a0 fun x3 =>
faK 1 x3 fun x4 =>
ldK 1 false x4 h2 fun x5 =>
faK 4 x1 fun x6 =>
ldK 1 false x6 h2 fun x7 =>
arithK .add x5 x7 fun x8 =>
nilK a0 fun x9 =>
faK 4 x9 fun x10 =>
ldK 1 false x10 h2 fun x11 =>
faK 4 x1 fun x12 =>
ldK 1 false x12 h2 fun x13 =>
arithK .sub x11 x13 fun x14 =>
nilK a0 fun x15 =>
faK 1 x15 fun x16 =>
effD (stE 1 x16 x8 h2) h2 fun x17 h18 e19 =>
nilK a0 fun x20 =>
faK 4 x20 fun x21 =>
effD (stE 1 x21 x14 h18) h18 fun x22 h23 e24 =>
bif disjAll [(14, 18)] [([], []), ([], []), ([], []), ([], []), ([], []), ((idsOf x4), []), ([], []), ((idsOf x6), []), ([], []), ([], []), ([], []), ([], []), ((idsOf x10), []), ([], []), ((idsOf x12), []), ([], []), ([], []), ([], []), e19, ([], []), ([], []), e24] then (
K (.tup []) h23) else none
theorem f_journey_table_13_run (T : Tab) (D : DTab) (N : Nat) {β : Type} (K : AV → Hp → Option β) (a0 : AV) (a1 : AV) (h : Hp) : runK Tryz.prog T D N [0, 1, 3] Tryz.f67 K [a0, a1] h = f_journey_table_13 Tryz.prog T D N K a0 a1 h := by kernel_rfl
noncomputable def f_journey_table_14 (P : Program) (T : Tab) (D : DTab) (N : Nat) {β : Type} (K : AV → Hp → Option β) (a0 : AV) (a1 : AV) (h : Hp) : Option β :=
effK (boxE 5 a1 (List.length h)) h fun x1 h2 =>
nilK a0 fun x3 =>
faK 2 x3 fun x4 =>
ldK 1 false x4 h2 fun x5 =>
faK 4 x1 fun x6 =>
ldK 1 false x6 h2 fun x7 =>
arithK .add x5 x7 fun x8 =>
nilK a0 fun x9 =>
faK 4 x9 fun x10 =>
ldK 1 false x10 h2 fun x11 =>
faK 4 x1 fun x12 =>
ldK 1 false x12 h2 fun x13 =>
arithK .sub x11 x13 fun x14 =>
nilK a0 fun x15 =>
faK 2 x15 fun x16 =>
effD (stE 1 x16 x8 h2) h2 fun x17 h18 e19 =>
nilK a0 fun x20 =>
faK 4 x20 fun x21 =>
effD (stE 1 x21 x14 h18) h18 fun x22 h23 e24 =>
bif disjAll [(14, 18)] [([], []), ([], []), ([], []), ([], []), ([], []), ((idsOf x4), []), ([], []), ((idsOf x6), []), ([], []), ([], []), ([], []), ([], []), ((idsOf x10), []), ([], []), ((idsOf x12), []), ([], []), ([], []), ([], []), e19, ([], []), ([], []), e24] then (
K (.tup []) h23) else none
theorem f_journey_table_14_run (T : Tab) (D : DTab) (N : Nat) {β : Type} (K : AV → Hp → Option β) (a0 : AV) (a1 : AV) (h : Hp) : runK Tryz.prog T D N [0, 1, 3] Tryz.f68 K [a0, a1] h = f_journey_table_14 Tryz.prog T D N K a0 a1 h := by kernel_rfl
noncomputable def f_journey_table_15 (P : Program) (T : Tab) (D : DTab) (N : Nat) {β : Type} (K : AV → Hp → Option β) (a0 : AV) (h : Hp) : Option β :=
effK (boxE 5 a0 (List.length h)) h fun x1 h2 =>
faK 2 x1 fun x3 =>
ldK 1 false x3 h2 fun x4 =>
callK (T 58) [x4] h2 fun x5 h6 =>
grpK true x5 h6 (fun k7 =>
faK 3 x1 fun x8 =>
ldK 1 false x8 h6 fun x9 =>
eqK P false 3 x9 (.s (.int .i64 0)) h6 fun x10 =>
k7 x10 h6) fun x11 h12 =>
grpK true x11 h12 (fun k13 =>
faK 4 x1 fun x14 =>
ldK 1 false x14 h12 fun x15 =>
callK (T 24) [x15, (.s (.int .i64 0)), (.s (.int .i64 10737418240000))] h12 fun x16 h17 =>
k13 x16 h17) fun x18 h19 =>
K x18 h19
theorem f_journey_table_15_run (T : Tab) (D : DTab) (N : Nat) {β : Type} (K : AV → Hp → Option β) (a0 : AV) (h : Hp) : runK Tryz.prog T D N [0, 1, 2] Tryz.f69 K [a0] h = f_journey_table_15 Tryz.prog T D N K a0 h := by kernel_rfl
noncomputable def f_journey_table_16 (P : Program) (T : Tab) (D : DTab) (N : Nat) {β : Type} (K : AV → Hp → Option β) (a0 : AV) (a1 : AV) (h : Hp) : Option β :=
effK (boxE 5 a1 (List.length h)) h fun x1 h2 =>
faK 4 x1 fun x3 =>
ldK 1 false x3 h2 fun x4 =>
nilK a0 fun x5 =>
faK 2 x5 fun x6 =>
ldK 1 false x6 h2 fun x7 =>
nilK a0 fun x8 =>
faK 4 x8 fun x9 =>
ldK 1 false x9 h2 fun x10 =>
arithK .add x7 x10 fun x11 =>
faK 4 x1 fun x12 =>
ldK 1 false x12 h2 fun x13 =>
arithK .sub x11 x13 fun x14 =>
nilK a0 fun x15 =>
faK 3 x15 fun x16 =>
effD (stE 1 x16 x4 h2) h2 fun x17 h18 e19 =>
nilK a0 fun x20 =>
faK 2 x20 fun x21 =>
effD (stE 1 x21 x14 h18) h18 fun x22 h23 e24 =>
nilK a0 fun x25 =>
faK 4 x25 fun x26 =>
effD (stE 1 x26 (.s (.int .i64 0)) h23) h23 fun x27 h28 e29 =>
nilK a0 fun x30 =>
faK 8 x30 fun x31 =>
effD (stE 1 x31 (.s (.bool true)) h28) h28 fun x32 h33 e34 =>
bif disjAll [(16, 20)] [([], []), ([], []), ([], []), ([], []), ([], []), ((idsOf x3), []), ([], []), ([], []), ([], []), ((idsOf x6), []), ([], []), ([], []), ([], []), ((idsOf x9), []), ([], []), ([], []), ((idsOf x12), []), ([], []), ([], []), ([], []), e19, ([], []), ([], []), e24, ([], []), ([], []), e29, ([], []), ([], []), e34] then (
K (.tup []) h33) else none
theorem f_journey_table_16_run (T : Tab) (D : DTab) (N : Nat) {β : Type} (K : AV → Hp → Option β) (a0 : AV) (a1 : AV) (h : Hp) : runK Tryz.prog T D N [0, 1, 3] Tryz.f70 K [a0, a1] h = f_journey_table_16 Tryz.prog T D N K a0 a1 h := by kernel_rfl
noncomputable def f_slices_ContainsFunc_Message (P : Program) (T : Tab) (D : DTab) (N : Nat) {β : Type} (K : AV → Hp → Option β) (a0 : AV) (a1 : AV) (h : Hp) : Option β :=
callK (T 87) [a0, a1] h fun x1 h2 =>
arithK .geq x1 (.s (.int .i64 0)) fun x3 =>
K x3 h2
theorem f_slices_ContainsFunc_Message_run (T : Tab) (D : DTab) (N : Nat) {β : Type} (K : AV → Hp → Option β) (a0 : AV) (a1 : AV) (h : Hp) : runK Tryz.prog T D N [0, 1, 4] Tryz.f71 K [a0, a1] h = f_slices_ContainsFunc_Message Tryz.prog T D N K a0 a1 h := by kernel_rfl
noncomputable def f_document_Normal_1 (P : Program) (T : Tab) (D : DTab) (N : Nat) {β : Type} (K : AV → Hp → Option β) (a0 : AV) (h : Hp) : Option β :=
effK (boxE 7 a0 (List.length h)) h fun x1 h2 =>
ldK 7 true x1 h2 fun x3 =>
callK (T 73) [x3] h2 fun x4 h5 =>
eqK P true 28 x4 (.s (.int .i64 0)) h5 fun x6 =>
K x6 h5
theorem f_document_Normal_1_run (T : Tab) (D : DTab) (N : Nat) {β : Type} (K : AV → Hp → Option β) (a0 : AV) (h : Hp) : runK Tryz.prog T D N [0, 1, 2] Tryz.f72 K [a0] h = f_document_Normal_1 Tryz.prog T D N K a0 h := by kernel_rfl
noncomputable def f_document_Check_j1 (P : Program) (T : Tab) (D : DTab) (N : Nat) {β : Type} (K : AV → Hp → Option β) (v1 : AV) (v3 : AV) (v4 : AV) (h : Hp) : Option β :=
notK v4 fun x47 =>
grpK false x47 h (fun k48 =>
ldK 7 true v1 h fun x49 =>
ldK 7 true v3 h fun x50 =>
eqK P true 67 x49 x50 h fun x51 =>
k48 x51 h) fun x52 h53 =>
condK x52 (
K (.s (.int .i64 1)) h53) (
K (.s (.int .i64 0)) h53)
noncomputable def f_document_Check_j2 (P : Program) (T : Tab) (D : DTab) (N : Nat) {β : Type} (K : AV → Hp → Option β) (v1 : AV) (v3 : AV) (v4 : AV) (h : Hp) : Option β :=
f_document_Check_j1 P T D N K v1 v3 v4 h
noncomputable def f_document_Check (P : Program) (T : Tab) (D : DTab) (N : Nat) {β : Type} (K : AV → Hp → Option β) (a0 : AV) (h : Hp) : Option β :=
effK (boxE 7 a0 (List.length h)) h fun x1 h2 =>
faK 0 x1 fun x3 =>
ldK 1 false x3 h2 fun x4 =>
arithK .lss x4 (.s (.int .i64 1)) fun x5 =>
grpK false x5 h2 (fun k6 =>
faK 0 x1 fun x7 =>
ldK 1 false x7 h2 fun x8 =>
arithK .gtr x8 (.s (.int .i64 1073741824)) fun x9 =>
k6 x9 h2) fun x10 h11 =>
grpK false x10 h11 (fun k12 =>
faK 1 x1 fun x13 =>
ldK 1 false x13 h11 fun x14 =>
arithK .lss x14 (.s (.int .i64 1)) fun x15 =>
k12 x15 h11) fun x16 h17 =>
grpK false x16 h17 (fun k18 =>
faK 1 x1 fun x19 =>
ldK 1 false x19 h17 fun x20 =>
arithK .gtr x20 (.s (.int .i64 5)) fun x21 =>
k18 x21 h17) fun x22 h23 =>
grpK false x22 h23 (fun k24 =>
faK 3 x1 fun x25 =>
ldK 1 false x25 h23 fun x26 =>
arithK .lss x26 (.s (.int .i64 0)) fun x27 =>
k24 x27 h23) fun x28 h29 =>
grpK false x28 h29 (fun k30 =>
faK 3 x1 fun x31 =>
ldK 1 false x31 h29 fun x32 =>
arithK .gtr x32 (.s (.int .i64 100000)) fun x33 =>
k30 x33 h29) fun x34 h35 =>
condK x34 (
K (.s (.int .i64 2)) h35) (
faK 0 x1 fun x36 =>
ldK 1 false x36 h35 fun x37 =>
faK 1 x1 fun x38 =>
ldK 1 false x38 h35 fun x39 =>
faK 3 x1 fun x40 =>
ldK 1 false x40 h35 fun x41 =>
buildK [.s (.int .i64 0), .s (.int .i64 0), .s (.int .i64 0), .s (.int .i64 0), .s (.int .i64 0), .s (.int .i64 0), .s (.int .i64 0)] [(some (0, 1), x37), (some (1, 1), x39), (some (3, 1), x41)] fun x42 =>
effK (boxE 7 (.agg [.s (.int .i64 0), .s (.int .i64 0), .s (.int .i64 0), .s (.int .i64 0), .s (.int .i64 0), .s (.int .i64 0), .s (.int .i64 0)]) (List.length h35)) h35 fun x43 h44 =>
effK (stE 7 x43 x42 h44) h44 fun x45 h46 =>
faK 1 x1 fun x54 =>
ldK 1 false x54 h46 fun x55 =>
eqK P false 3 x55 (.s (.int .i64 1)) h46 fun x56 =>
condK x56 (
faK 4 x1 fun x57 =>
ldK 1 false x57 h46 fun x58 =>
faK 5 x1 fun x59 =>
ldK 1 false x59 h46 fun x60 =>
faK 6 x1 fun x61 =>
ldK 1 false x61 h46 fun x62 =>
faK 4 x43 fun x63 =>
effD (stE 1 x63 x58 h46) h46 fun x64 h65 e66 =>
faK 5 x43 fun x67 =>
effD (stE 1 x67 x60 h65) h65 fun x68 h69 e70 =>
faK 6 x43 fun x71 =>
effD (stE 1 x71 x62 h69) h69 fun x72 h73 e74 =>
bif disjAll [(3, 7), (5, 7), (5, 9)] [([], []), ((idsOf x57), []), ([], []), ((idsOf x59), []), ([], []), ((idsOf x61), []), ([], []), e66, ([], []), e70, ([], []), e74] then (
faK 4 x1 fun x75 =>
ldK 1 false x75 h73 fun x76 =>
callK (T 88) [x76] h73 fun x77 h78 =>
grpK true x77 h78 (fun k79 =>
faK 5 x1 fun x80 =>
ldK 1 false x80 h78 fun x81 =>
callK (T 88) [x81] h78 fun x82 h83 =>
k79 x82 h83) fun x84 h85 =>
grpK true x84 h85 (fun k86 =>
faK 4 x1 fun x87 =>
ldK 1 false x87 h85 fun x88 =>
faK 5 x1 fun x89 =>
ldK 1 false x89 h85 fun x90 =>
eqK P true 3 x88 x90 h85 fun x91 =>
k86 x91 h85) fun x92 h93 =>
grpK true x92 h93 (fun k94 =>
faK 6 x1 fun x95 =>
ldK 1 false x95 h93 fun x96 =>
arithK .geq x96 (.s (.int .i64 1)) fun x97 =>
k94 x97 h93) fun x98 h99 =>
grpK true x98 h99 (fun k100 =>
faK 6 x1 fun x101 =>
ldK 1 false x101 h99 fun x102 =>
arithK .leq x102 (.s (.int .i64 10737418240000)) fun x103 =>
k100 x103 h99) fun x104 h105 =>
f_document_Check_j2 P T D N K x1 x43 x104 h105) else none) (
eqK P false 3 x55 (.s (.int .i64 2)) h46 fun x106 =>
condK x106 (
faK 2 x1 fun x107 =>
ldK 1 false x107 h46 fun x108 =>
faK 5 x1 fun x109 =>
ldK 1 false x109 h46 fun x110 =>
faK 2 x43 fun x111 =>
effD (stE 1 x111 x108 h46) h46 fun x112 h113 e114 =>
faK 5 x43 fun x115 =>
effD (stE 1 x115 x110 h113) h113 fun x116 h117 e118 =>
bif disjAll [(3, 5)] [([], []), ((idsOf x107), []), ([], []), ((idsOf x109), []), ([], []), e114, ([], []), e118] then (
faK 2 x1 fun x119 =>
ldK 1 false x119 h117 fun x120 =>
arithK .geq x120 (.s (.int .i64 1)) fun x121 =>
grpK true x121 h117 (fun k122 =>
faK 2 x1 fun x123 =>
ldK 1 false x123 h117 fun x124 =>
arithK .leq x124 (.s (.int .i64 64)) fun x125 =>
k122 x125 h117) fun x126 h127 =>
grpK true x126 h127 (fun k128 =>
faK 5 x1 fun x129 =>
ldK 1 false x129 h127 fun x130 =>
callK (T 88) [x130] h127 fun x131 h132 =>
k128 x131 h132) fun x133 h134 =>
f_document_Check_j2 P T D N K x1 x43 x133 h134) else none) (
eqK P false 3 x55 (.s (.int .i64 3)) h46 fun x135 =>
condK x135 (
faK 6 x1 fun x136 =>
ldK 1 false x136 h46 fun x137 =>
faK 6 x43 fun x138 =>
effK (stE 1 x138 x137 h46) h46 fun x139 h140 =>
faK 6 x1 fun x141 =>
ldK 1 false x141 h140 fun x142 =>
arithK .geq x142 (.s (.int .i64 0)) fun x143 =>
grpK true x143 h140 (fun k144 =>
faK 6 x1 fun x145 =>
ldK 1 false x145 h140 fun x146 =>
arithK .leq x146 (.s (.int .i64 10737418240000)) fun x147 =>
k144 x147 h140) fun x148 h149 =>
f_document_Check_j2 P T D N K x1 x43 x148 h149) (
f_document_Check_j2 P T D N K x1 x43 (.s (.bool true)) h46))))
theorem f_document_Check_run (T : Tab) (D : DTab) (N : Nat) {β : Type} (K : AV → Hp → Option β) (a0 : AV) (h : Hp) : runK Tryz.prog T D N [0, 1, 2, 3, 4, 32, 41, 42, 78, 99, 118] Tryz.f73 K [a0] h = f_document_Check Tryz.prog T D N K a0 h := by kernel_rfl
noncomputable def f_slices_Clone_Message (P : Program) (T : Tab) (D : DTab) (N : Nat) {β : Type} (K : AV → Hp → Option β) (a0 : AV) (h : Hp) : Option β :=
eqK P false 41 a0 (.s (.slice none 0 0)) h fun x1 =>
condK x1 (
K (.s (.slice none 0 0)) h) (
effK (bsE 7 [.s (.int .i64 0), .s (.int .i64 0), .s (.int .i64 0), .s (.int .i64 0), .s (.int .i64 0), .s (.int .i64 0), .s (.int .i64 0)] 0 [] (List.length h)) h fun x2 h3 =>
effK (appE 7 56 x2 a0 h3 (List.length h3)) h3 fun x4 h5 =>
K x4 h5)
theorem f_slices_Clone_Message_run (T : Tab) (D : DTab) (N : Nat) {β : Type} (K : AV → Hp → Option β) (a0 : AV) (h : Hp) : runK Tryz.prog T D N [0, 2, 4] Tryz.f74 K [a0] h = f_slices_Clone_Message Tryz.prog T D N K a0 h := by kernel_rfl
noncomputable def f_document_compare (P : Program) (T : Tab) (D : DTab) (N : Nat) {β : Type} (K : AV → Hp → Option β) (a0 : AV) (a1 : AV) (h : Hp) : Option β :=
effK (boxE 7 a0 (List.length h)) h fun x1 h2 =>
effK (boxE 7 a1 (List.length h2)) h2 fun x3 h4 =>
faK 0 x1 fun x5 =>
ldK 1 false x5 h4 fun x6 =>
faK 0 x3 fun x7 =>
ldK 1 false x7 h4 fun x8 =>
effD (callE (D 92) [x6, x8] h4 (List.length h4)) h4 fun x9 h10 e11 =>
faK 1 x1 fun x12 =>
ldK 1 false x12 h10 fun x13 =>
faK 1 x3 fun x14 =>
ldK 1 false x14 h10 fun x15 =>
effD (callE (D 92) [x13, x15] h10 (List.length h10)) h10 fun x16 h17 e18 =>
faK 2 x1 fun x19 =>
ldK 1 false x19 h17 fun x20 =>
faK 2 x3 fun x21 =>
ldK 1 false x21 h17 fun x22 =>
effD (callE (D 92) [x20, x22] h17 (List.length h17)) h17 fun x23 h24 e25 =>
faK 3 x1 fun x26 =>
ldK 1 false x26 h24 fun x27 =>
faK 3 x3 fun x28 =>
ldK 1 false x28 h24 fun x29 =>
effD (callE (D 92) [x27, x29] h24 (List.length h24)) h24 fun x30 h31 e32 =>
faK 4 x1 fun x33 =>
ldK 1 false x33 h31 fun x34 =>
faK 4 x3 fun x35 =>
ldK 1 false x35 h31 fun x36 =>
effD (callE (D 92) [x34, x36] h31 (List.length h31)) h31 fun x37 h38 e39 =>
faK 5 x1 fun x40 =>
ldK 1 false x40 h38 fun x41 =>
faK 5 x3 fun x42 =>
ldK 1 false x42 h38 fun x43 =>
effD (callE (D 92) [x41, x43] h38 (List.length h38)) h38 fun x44 h45 e46 =>
faK 6 x1 fun x47 =>
ldK 1 false x47 h45 fun x48 =>
faK 6 x3 fun x49 =>
ldK 1 false x49 h45 fun x50 =>
effD (callE (D 92) [x48, x50] h45 (List.length h45)) h45 fun x51 h52 e53 =>
effD (bsE 1 [.s (.int .i64 0)] 7 [(0, x9), (1, x16), (2, x23), (3, x30), (4, x37), (5, x44), (6, x51)] (List.length h52)) h52 fun x54 h55 e56 =>
effD (callE (D 91) [x54] h55 (List.length h55)) h55 fun x57 h58 e59 =>
bif disjAll [(4, 6), (4, 8), (4, 11), (9, 11), (4, 13), (9, 13), (4, 16), (9, 16), (14, 16), (4, 18), (9, 18), (14, 18), (4, 21), (9, 21), (14, 21), (19, 21), (4, 23), (9, 23), (14, 23), (19, 23), (4, 26), (9, 26), (14, 26), (19, 26), (24, 26), (4, 28), (9, 28), (14, 28), (19, 28), (24, 28), (4, 31), (9, 31), (14, 31), (19, 31), (24, 31), (29, 31), (4, 33), (9, 33), (14, 33), (19, 33), (24, 33), (29, 33)] [([], []), ((idsOf x5), []), ([], []), ((idsOf x7), []), e11, ([], []), ((idsOf x12), []), ([], []), ((idsOf x14), []), e18, ([], []), ((idsOf x19), []), ([], []), ((idsOf x21), []), e25, ([], []), ((idsOf x26), []), ([], []), ((idsOf x28), []), e32, ([], []), ((idsOf x33), []), ([], []), ((idsOf x35), []), e39, ([], []), ((idsOf x40), []), ([], []), ((idsOf x42), []), e46, ([], []), ((idsOf x47), []), ([], []), ((idsOf x49), []), e53, e56, e59, ([], [])] then (
K x57 h58) else none
theorem f_document_compare_run (T : Tab) (D : DTab) (N : Nat) {β : Type} (K : AV → Hp → Option β) (a0 : AV) (a1 : AV) (h : Hp) : runK Tryz.prog T D N [0, 1, 2, 3, 4] Tryz.f76 K [a0, a1] h = f_document_compare Tryz.prog T D N K a0 a1 h := by kernel_rfl
noncomputable def o_slices_Compact_Message_j1 (P : Program) (T : Tab) (D : DTab) (N : Nat) {β : Type} (K : AV → Hp → Option β) (t : Tm) (h : Hp) : Option β :=
K (t 0) h
noncomputable def o_slices_Compact_Message_j3 (P : Program) (T : Tab) (D : DTab) (N : Nat) {β : Type} (k : Ex → St → Option β) (t : Tm) (h : Hp) : Option β :=
arithK .add (t 3) (.s (.int .i64 1)) fun x5 =>
k .normal ((upd t 3 x5), h)
noncomputable def o_slices_Compact_Message_j4 (P : Program) (T : Tab) (D : DTab) (N : Nat) {β : Type} (k : Ex → St → Option β) (t : Tm) (h : Hp) : Option β :=
sliceK 7 (t 0) (some (t 3)) none none fun x13 =>
effK (clrE 7 [.s (.int .i64 0), .s (.int .i64 0), .s (.int .i64 0), .s (.int .i64 0), .s (.int .i64 0), .s (.int .i64 0), .s (.int .i64 0)] x13 h) h fun x14 h15 =>
sliceK 7 (t 0) none (some (t 3)) none fun x16 =>
k .ret ((upd t 2 x16), h15)
noncomputable def o_slices_Compact_Message_j6 (P : Program) (T : Tab) (D : DTab) (N : Nat) {β : Type} (k : Ex → St → Option β) (t : Tm) (h : Hp) : Option β :=
arithK .add (t 5) (.s (.int .i64 1)) fun x19 =>
k .normal ((upd t 5 x19), h)
noncomputable def o_slices_Compact_Message_j7 (P : Program) (T : Tab) (D : DTab) (N : Nat) {β : Type} (k : Ex → St → Option β) (t : Tm) (h : Hp) : Option β :=
(o_slices_Compact_Message_j6 P T D N k t h)
noncomputable def o_slices_Compact_Message_L5 (P : Program) (T : Tab) (D : DTab) (N : Nat) {β : Type} (t : Tm) (h : Hp) (k : Ex → St → Option β) : Option β :=
lenK (t 4) fun x17 =>
arithK .lss (t 5) x17 fun x18 =>
condK x18 (
iaK 7 (t 4) (t 5) fun x20 =>
ldK 7 true x20 h fun x21 =>
arithK .sub (t 5) (.s (.int .i64 1)) fun x22 =>
iaK 7 (t 4) x22 fun x23 =>
ldK 7 true x23 h fun x24 =>
eqK P true 67 x21 x24 h fun x25 =>
condK x25 (
iaK 7 (t 4) (t 5) fun x26 =>
ldK 7 true x26 h fun x27 =>
iaK 7 (t 0) (t 3) fun x28 =>
effK (stE 7 x28 x27 h) h fun x29 h30 =>
arithK .add (t 3) (.s (.int .i64 1)) fun x31 =>
(o_slices_Compact_Message_j7 P T D N k (upd (upd (upd t 32 x18) 44 x25) 3 x31) h30)) (
(o_slices_Compact_Message_j7 P T D N k (upd (upd t 32 x18) 44 x25) h))) (
k (.exit 2) ((upd t 32 x18), h))
noncomputable def o_slices_Compact_Message_aL5 (P : Program) (T : Tab) (D : DTab) (N : Nat) {β : Type} (k : Ex → St → Option β) (e : Ex) (s : St) : Option β :=
  e.on ((o_slices_Compact_Message_j4 P T D N k s.1 s.2))
  (fun i => bif i == 2 then ((o_slices_Compact_Message_j4 P T D N k s.1 s.2)) else (bif i == 1 then ((o_slices_Compact_Message_j3 P T D N k s.1 s.2)) else (k (.exit i) (s.1, s.2))))
  (k .ret (s.1, s.2))
noncomputable def o_slices_Compact_Message_L2_G (P : Program) (T : Tab) (D : DTab) (N : Nat) {β : Type} (cL5 : St → Option β) (cj3 : St → Option β) (t : Tm) (h : Hp) (k : Ex → St → Option β) :  Option β :=
lenK (t 0) fun x3 =>
arithK .lss (t 3) x3 fun x4 =>
condK x4 (
iaK 7 (t 0) (t 3) fun x6 =>
ldK 7 true x6 h fun x7 =>
arithK .sub (t 3) (.s (.int .i64 1)) fun x8 =>
iaK 7 (t 0) x8 fun x9 =>
ldK 7 true x9 h fun x10 =>
eqK P false 67 x7 x10 h fun x11 =>
condK x11 (
sliceK 7 (t 0) (some (t 3)) none none fun x12 =>
cL5 ((upd (upd (upd (upd t 13 x4) 25 x11) 4 x12) 5 (.s (.int .i64 1))), h)) (
cj3 ((upd (upd t 13 x4) 25 x11), h))) (
k (.exit 0) ((upd t 13 x4), h))
noncomputable def o_slices_Compact_Message_L2 (P : Program) (T : Tab) (D : DTab) (N : Nat) {β : Type} (t : Tm) (h : Hp) (k : Ex → St → Option β) : Option β := o_slices_Compact_Message_L2_G P T D N (fun s => iterK (fun s k => o_slices_Compact_Message_L5 P T D N s.1 s.2 k) N s (o_slices_Compact_Message_aL5 P T D N k)) (fun s => (o_slices_Compact_Message_j3 P T D N k s.1 s.2)) t h k
noncomputable def o_slices_Compact_Message_aL2 (P : Program) (T : Tab) (D : DTab) (N : Nat) {β : Type} (K : AV → Hp → Option β) (e : Ex) (s : St) : Option β :=
  e.on ((o_slices_Compact_Message_j1 P T D N K s.1 s.2))
  (fun i => bif i == 0 then ((o_slices_Compact_Message_j1 P T D N K s.1 s.2)) else (none))
  (K (s.1 2) s.2)
noncomputable def o_slices_Compact_Message_G (P : Program) (T : Tab) (D : DTab) (N : Nat) {β : Type} (cL2 : St → Option β) (K : AV → Hp → Option β) (a0 : AV) (h : Hp) :  Option β :=
lenK a0 fun x1 =>
arithK .lss x1 (.s (.int .i64 2)) fun x2 =>
condK x2 (
K a0 h) (
cL2 ((upd (upd (upd (tm0 [a0]) 2 (.s (.slice none 0 0))) 8 x2) 3 (.s (.int .i64 1))), h))
noncomputable def o_slices_Compact_Message (P : Program) (T : Tab) (D : DTab) (N : Nat) {β : Type} (K : AV → Hp → Option β) (a0 : AV) (h : Hp) : Option β := o_slices_Compact_Message_G P T D N (fun s => iterK (fun s k => o_slices_Compact_Message_L2 P T D N s.1 s.2 k) N s (o_slices_Compact_Message_aL2 P T D N K)) K a0 h
noncomputable def f_slices_Compact_Message_j1 (P : Program) (T : Tab) (D : DTab) (N : Nat) {β : Type} (K : AV → Hp → Option β) (v0 : AV) (h : Hp) : Option β :=
K v0 h
noncomputable def f_slices_Compact_Message_j3 (P : Program) (T : Tab) (D : DTab) (N : Nat) {β : Type} (xn : AV → AV → Hp → Option β) (x0 : AV → Hp → Option β) (xr : AV → Hp → Option β) (v0 : AV) (v3 : AV) (h : Hp) : Option β :=
arithK .add v3 (.s (.int .i64 1)) fun x5 =>
xn v0 x5 h
noncomputable def f_slices_Compact_Message_j4 (P : Program) (T : Tab) (D : DTab) (N : Nat) {β : Type} (xn : AV → AV → Hp → Option β) (x0 : AV → Hp → Option β) (xr : AV → Hp → Option β) (v0 : AV) (v3 : AV) (h : Hp) : Option β :=
sliceK 7 v0 (some v3) none none fun x13 =>
effK (clrE 7 [.s (.int .i64 0), .s (.int .i64 0), .s (.int .i64 0), .s (.int .i64 0), .s (.int .i64 0), .s (.int .i64 0), .s (.int .i64 0)] x13 h) h fun x14 h15 =>
sliceK 7 v0 none (some v3) none fun x16 =>
xr x16 h15
noncomputable def f_slices_Compact_Message_j6 (P : Program) (T : Tab) (D : DTab) (N : Nat) {β : Type} (xn : AV → AV → AV → AV → Hp → Option β) (x2 : AV → AV → Hp → Option β) (v0 : AV) (v3 : AV) (v4 : AV) (v5 : AV) (h : Hp) : Option β :=
arithK .add v5 (.s (.int .i64 1)) fun x19 =>
xn v0 v3 v4 x19 h
noncomputable def f_slices_Compact_Message_j7 (P : Program) (T : Tab) (D : DTab) (N : Nat) {β : Type} (xn : AV → AV → AV → AV → Hp → Option β) (x2 : AV → AV → Hp → Option β) (v0 : AV) (v3 : AV) (v4 : AV) (v5 : AV) (h : Hp) : Option β :=
f_slices_Compact_Message_j6 P T D N xn x2 v0 v3 v4 v5 h
noncomputable def f_slices_Compact_Message_b5 (P : Program) (T : Tab) (D : DTab) (N : Nat) {β : Type} (xn : AV → AV → AV → AV → Hp → Option β) (x2 : AV → AV → Hp → Option β) (v0 : AV) (v3 : AV) (v4 : AV) (v5 : AV) (h : Hp) : Option β :=
lenK v4 fun x17 =>
arithK .lss v5 x17 fun x18 =>
condK x18 (
iaK 7 v4 v5 fun x20 =>
ldK 7 true x20 h fun x21 =>
arithK .sub v5 (.s (.int .i64 1)) fun x22 =>
iaK 7 v4 x22 fun x23 =>
ldK 7 true x23 h fun x24 =>
eqK P true 67 x21 x24 h fun x25 =>
condK x25 (
iaK 7 v4 v5 fun x26 =>
ldK 7 true x26 h fun x27 =>
iaK 7 v0 v3 fun x28 =>
effK (stE 7 x28 x27 h) h fun x29 h30 =>
arithK .add v3 (.s (.int .i64 1)) fun x31 =>
f_slices_Compact_Message_j7 P T D N xn x2 v0 x31 v4 v5 h30) (
f_slices_Compact_Message_j7 P T D N xn x2 v0 v3 v4 v5 h)) (
x2 v0 v3 h)
noncomputable def f_slices_Compact_Message_L5 (P : Program) (T : Tab) (D : DTab) (N : Nat) {β : Type} (x2 : AV → AV → Hp → Option β) : Nat → AV → AV → AV → AV → Hp → Option β
  | 0 => fun _ _ _ _ _ => none
  | n + 1 => fun v0 v3 v4 v5 h => f_slices_Compact_Message_b5 P T D N (f_slices_Compact_Message_L5 P T D N x2 n) x2 v0 v3 v4 v5 h
noncomputable def f_slices_Compact_Message_b2 (P : Program) (T : Tab) (D : DTab) (N : Nat) {β : Type} (xn : AV → AV → Hp → Option β) (x0 : AV → Hp → Option β) (xr : AV → Hp → Option β) (v0 : AV) (v3 : AV) (h : Hp) : Option β :=
lenK v0 fun x3 =>
arithK .lss v3 x3 fun x4 =>
condK x4 (
iaK 7 v0 v3 fun x6 =>
ldK 7 true x6 h fun x7 =>
arithK .sub v3 (.s (.int .i64 1)) fun x8 =>
iaK 7 v0 x8 fun x9 =>
ldK 7 true x9 h fun x10 =>
eqK P false 67 x7 x10 h fun x11 =>
condK x11 (
sliceK 7 v0 (some v3) none none fun x12 =>
f_slices_Compact_Message_L5 P T D N (fun w32_0 w32_3 h => f_slices_Compact_Message_j4 P T D N xn x0 xr w32_0 w32_3 h) N v0 v3 x12 (.s (.int .i64 1)) h) (
f_slices_Compact_Message_j3 P T D N xn x0 xr v0 v3 h)) (
x0 v0 h)
noncomputable def f_slices_Compact_Message_L2 (P : Program) (T : Tab) (D : DTab) (N : Nat) {β : Type} (x0 : AV → Hp → Option β) (xr : AV → Hp → Option β) : Nat → AV → AV → Hp → Option β
  | 0 => fun _ _ _ => none
  | n + 1 => fun v0 v3 h => f_slices_Compact_Message_b2 P T D N (f_slices_Compact_Message_L2 P T D N x0 xr n) x0 xr v0 v3 h
noncomputable def f_slices_Compact_Message (P : Program) (T : Tab) (D : DTab) (N : Nat) {β : Type} (K : AV → Hp → Option β) (a0 : AV) (h : Hp) : Option β :=
lenK a0 fun x1 =>
arithK .lss x1 (.s (.int .i64 2)) fun x2 =>
condK x2 (
K a0 h) (
f_slices_Compact_Message_L2 P T D N (fun w33_0 h => f_slices_Compact_Message_j1 P T D N K w33_0 h) (fun w34_2 h => K w34_2 h) N a0 (.s (.int .i64 1)) h)
theorem f_slices_Compact_Message_j3_eq (P : Program) (T : Tab) (D : DTab) (N : Nat) {β : Type} (xn : AV → AV → Hp → Option β) (x0 : AV → Hp → Option β) (xr : AV → Hp → Option β) (xd : Nat → St → Option β) (xq : St → Option β) (t : Tm) (h : Hp) : o_slices_Compact_Message_j3 P T D N (fun (e : Ex) (s : St) => e.on (xn (s.1 0) (s.1 3) s.2) (fun i => (bif i == 0 then x0 (s.1 0) s.2 else (xd i s))) (xr (s.1 2) s.2)) t h = f_slices_Compact_Message_j3 P T D N xn x0 xr (t 0) (t 3) h := by kernel_rfl
theorem f_slices_Compact_Message_b5_eq (P : Program) (T : Tab) (D : DTab) (N : Nat) {β : Type} (xn : AV → AV → AV → AV → Hp → Option β) (x2 : AV → AV → Hp → Option β) (xd : Nat → St → Option β) (xq : St → Option β) (t : Tm) (h : Hp) : o_slices_Compact_Message_L5 P T D N t h (fun (e : Ex) (s : St) => e.on (xn (s.1 0) (s.1 3) (s.1 4) (s.1 5) s.2) (fun i => (bif i == 2 then x2 (s.1 0) (s.1 3) s.2 else (xd i s))) (xq s)) = f_slices_Compact_Message_b5 P T D N xn x2 (t 0) (t 3) (t 4) (t 5) h := by kernel_rfl
theorem f_slices_Compact_Message_L5_eq (P : Program) (T : Tab) (D : DTab) (N : Nat) {β : Type} (A : Ex → St → Option β) (x2 : AV → AV → Hp → Option β) (q2 : ∀ s, A (.exit 2) s = x2 (s.1 0) (s.1 3) s.2) : ∀ (n : Nat) (s : St), iterK (fun s k => o_slices_Compact_Message_L5 P T D N s.1 s.2 k) n s A = f_slices_Compact_Message_L5 P T D N x2 n (s.1 0) (s.1 3) (s.1 4) (s.1 5) s.2 := by
  intro n
  induction n with
  | zero => intro s; rfl
  | succ n ih =>
    intro s
    have hk : (fun (e : Ex) (s' : St) => Ex.on e (iterK (fun s k => o_slices_Compact_Message_L5 P T D N s.1 s.2 k) n s' A) (fun i => A (.exit i) s') (A .ret s')) = (fun (e : Ex) (s : St) => e.on ((f_slices_Compact_Message_L5 P T D N x2 n) (s.1 0) (s.1 3) (s.1 4) (s.1 5) s.2) (fun i => (bif i == 2 then x2 (s.1 0) (s.1 3) s.2 else (A (.exit i) s))) (A .ret s)) := by
      funext e s'
      cases e with
      | normal => exact ih s'
      | ret => exact rfl
      | exit i =>
        by_cases r2 : i = 2
        · subst r2; exact q2 s'
        simp only [Ex.on, beq_false_of_ne r2, cond_false]
    show o_slices_Compact_Message_L5 P T D N s.1 s.2 (fun (e : Ex) (s' : St) => Ex.on e (iterK (fun s k => o_slices_Compact_Message_L5 P T D N s.1 s.2 k) n s' A) (fun i => A (.exit i) s') (A .ret s')) = _
    rw [hk]
    exact f_slices_Compact_Message_b5_eq P T D N (f_slices_Compact_Message_L5 P T D N x2 n) x2 (fun i s => A (.exit i) s) (fun s => A .ret s) s.1 s.2
theorem f_slices_Compact_Message_b2_eq (P : Program) (T : Tab) (D : DTab) (N : Nat) {β : Type} (xn : AV → AV → Hp → Option β) (x0 : AV → Hp → Option β) (xr : AV → Hp → Option β) (xd : Nat → St → Option β) (xq : St → Option β) (t : Tm) (h : Hp) : o_slices_Compact_Message_L2 P T D N t h (fun (e : Ex) (s : St) => e.on (xn (s.1 0) (s.1 3) s.2) (fun i => (bif i == 0 then x0 (s.1 0) s.2 else (xd i s))) (xr (s.1 2) s.2)) = f_slices_Compact_Message_b2 P T D N xn x0 xr (t 0) (t 3) h := by
  have eL5 : (fun s : St => iterK (fun s k => o_slices_Compact_Message_L5 P T D N s.1 s.2 k) N s (o_slices_Compact_Message_aL5 P T D N (fun (e : Ex) (s : St) => e.on (xn (s.1 0) (s.1 3) s.2) (fun i => (bif i == 0 then x0 (s.1 0) s.2 else (xd i s))) (xr (s.1 2) s.2)))) = (fun s : St => f_slices_Compact_Message_L5 P T D N (fun w32_0 w32_3 h => f_slices_Compact_Message_j4 P T D N xn x0 xr w32_0 w32_3 h) N (s.1 0) (s.1 3) (s.1 4) (s.1 5) s.2) := funext fun s => f_slices_Compact_Message_L5_eq P T D N (o_slices_Compact_Message_aL5 P T D N (fun (e : Ex) (s : St) => e.on (xn (s.1 0) (s.1 3) s.2) (fun i => (bif i == 0 then x0 (s.1 0) s.2 else (xd i s))) (xr (s.1 2) s.2))) (fun w32_0 w32_3 h => f_slices_Compact_Message_j4 P T D N xn x0 xr w32_0 w32_3 h) (fun s => rfl) N s
  have ej3 : (fun s : St => o_slices_Compact_Message_j3 P T D N (fun (e : Ex) (s : St) => e.on (xn (s.1 0) (s.1 3) s.2) (fun i => (bif i == 0 then x0 (s.1 0) s.2 else (xd i s))) (xr (s.1 2) s.2)) s.1 s.2) = (fun s : St => f_slices_Compact_Message_j3 P T D N xn x0 xr (s.1 0) (s.1 3) s.2) := funext fun s => f_slices_Compact_Message_j3_eq P T D N xn x0 xr xd xq s.1 s.2
  show o_slices_Compact_Message_L2_G P T D N (fun s => iterK (fun s k => o_slices_Compact_Message_L5 P T D N s.1 s.2 k) N s (o_slices_Compact_Message_aL5 P T D N (fun (e : Ex) (s : St) => e.on (xn (s.1 0) (s.1 3) s.2) (fun i => (bif i == 0 then x0 (s.1 0) s.2 else (xd i s))) (xr (s.1 2) s.2)))) (fun s => o_slices_Compact_Message_j3 P T D N (fun (e : Ex) (s : St) => e.on (xn (s.1 0) (s.1 3) s.2) (fun i => (bif i == 0 then x0 (s.1 0) s.2 else (xd i s))) (xr (s.1 2) s.2)) s.1 s.2) t h (fun (e : Ex) (s : St) => e.on (xn (s.1 0) (s.1 3) s.2) (fun i => (bif i == 0 then x0 (s.1 0) s.2 else (xd i s))) (xr (s.1 2) s.2)) = _
  rw [eL5, ej3]
  kernel_rfl
theorem f_slices_Compact_Message_L2_eq (P : Program) (T : Tab) (D : DTab) (N : Nat) {β : Type} (A : Ex → St → Option β) (x0 : AV → Hp → Option β) (xr : AV → Hp → Option β) (q0 : ∀ s, A (.exit 0) s = x0 (s.1 0) s.2) (qr : ∀ s, A .ret s = xr (s.1 2) s.2) : ∀ (n : Nat) (s : St), iterK (fun s k => o_slices_Compact_Message_L2 P T D N s.1 s.2 k) n s A = f_slices_Compact_Message_L2 P T D N x0 xr n (s.1 0) (s.1 3) s.2 := by
  intro n
  induction n with
  | zero => intro s; rfl
  | succ n ih =>
    intro s
    have hk : (fun (e : Ex) (s' : St) => Ex.on e (iterK (fun s k => o_slices_Compact_Message_L2 P T D N s.1 s.2 k) n s' A) (fun i => A (.exit i) s') (A .ret s')) = (fun (e : Ex) (s : St) => e.on ((f_slices_Compact_Message_L2 P T D N x0 xr n) (s.1 0) (s.1 3) s.2) (fun i => (bif i == 0 then x0 (s.1 0) s.2 else (A (.exit i) s))) (xr (s.1 2) s.2)) := by
      funext e s'
      cases e with
      | normal => exact ih s'
      | ret => exact qr s'
      | exit i =>
        by_cases r0 : i = 0
        · subst r0; exact q0 s'
        simp only [Ex.on, beq_false_of_ne r0, cond_false]
    show o_slices_Compact_Message_L2 P T D N s.1 s.2 (fun (e : Ex) (s' : St) => Ex.on e (iterK (fun s k => o_slices_Compact_Message_L2 P T D N s.1 s.2 k) n s' A) (fun i => A (.exit i) s') (A .ret s')) = _
    rw [hk]
    exact f_slices_Compact_Message_b2_eq P T D N (f_slices_Compact_Message_L2 P T D N x0 xr n) x0 xr (fun i s => A (.exit i) s) (fun s => A .ret s) s.1 s.2
theorem f_slices_Compact_Message_old_eq (P : Program) (T : Tab) (D : DTab) (N : Nat) {β : Type} (K : AV → Hp → Option β) (a0 : AV) (h : Hp) : o_slices_Compact_Message P T D N K a0 h = f_slices_Compact_Message P T D N K a0 h := by
  have eL2 : (fun s : St => iterK (fun s k => o_slices_Compact_Message_L2 P T D N s.1 s.2 k) N s (o_slices_Compact_Message_aL2 P T D N K)) = (fun s : St => f_slices_Compact_Message_L2 P T D N (fun w33_0 h => f_slices_Compact_Message_j1 P T D N K w33_0 h) (fun w34_2 h => K w34_2 h) N (s.1 0) (s.1 3) s.2) := funext fun s => f_slices_Compact_Message_L2_eq P T D N (o_slices_Compact_Message_aL2 P T D N K) (fun w33_0 h => f_slices_Compact_Message_j1 P T D N K w33_0 h) (fun w34_2 h => K w34_2 h) (fun s => rfl) (fun s => rfl) N s
  show o_slices_Compact_Message_G P T D N (fun s => iterK (fun s k => o_slices_Compact_Message_L2 P T D N s.1 s.2 k) N s (o_slices_Compact_Message_aL2 P T D N K)) K a0 h = _
  rw [eL2]
  kernel_rfl
theorem o_slices_Compact_Message_run (T : Tab) (D : DTab) (N : Nat) {β : Type} (K : AV → Hp → Option β) (a0 : AV) (h : Hp) : runK Tryz.prog T D N [0, 2, 3, 4, 5, 8, 13, 25, 32, 44] Tryz.f77 K [a0] h = o_slices_Compact_Message Tryz.prog T D N K a0 h := by kernel_rfl
theorem f_slices_Compact_Message_run (T : Tab) (D : DTab) (N : Nat) {β : Type} (K : AV → Hp → Option β) (a0 : AV) (h : Hp) : runK Tryz.prog T D N [0, 2, 3, 4, 5, 8, 13, 25, 32, 44] Tryz.f77 K [a0] h = f_slices_Compact_Message Tryz.prog T D N K a0 h := (o_slices_Compact_Message_run T D N K a0 h).trans (f_slices_Compact_Message_old_eq Tryz.prog T D N K a0 h)
noncomputable def o_slices_IndexFunc_Leg_j1 (P : Program) (T : Tab) (D : DTab) (N : Nat) {β : Type} (K : AV → Hp → Option β) (t : Tm) (h : Hp) : Option β :=
K (.s (.int .i64 (-1))) h
noncomputable def o_slices_IndexFunc_Leg_L2 (P : Program) (T : Tab) (D : DTab) (N : Nat) {β : Type} (t : Tm) (h : Hp) (k : Ex → St → Option β) : Option β :=
arithK .lss (t 8) (t 7) fun x2 =>
condK x2 (
iaK 1 (t 0) (t 8) fun x3 =>
ldK 1 false x3 h fun x4 =>
callVK T (t 1) [x4] h fun x5 h6 =>
condK x5 (
k .ret ((upd (upd (upd (upd t 9 x2) 5 (t 8)) 16 x5) 4 (t 8)), h6)) (
arithK .add (t 8) (.s (.int .i64 1)) fun x7 =>
k .normal ((upd (upd (upd (upd t 9 x2) 5 (t 8)) 16 x5) 8 x7), h6))) (
k (.exit 0) ((upd t 9 x2), h))
noncomputable def o_slices_IndexFunc_Leg_aL2 (P : Program) (T : Tab) (D : DTab) (N : Nat) {β : Type} (K : AV → Hp → Option β) (e : Ex) (s : St) : Option β :=
  e.on ((o_slices_IndexFunc_Leg_j1 P T D N K s.1 s.2))
  (fun i => bif i == 0 then ((o_slices_IndexFunc_Leg_j1 P T D N K s.1 s.2)) else (none))
  (K (s.1 4) s.2)
noncomputable def o_slices_IndexFunc_Leg_G (P : Program) (T : Tab) (D : DTab) (N : Nat) {β : Type} (cL2 : St → Option β) (K : AV → Hp → Option β) (a0 : AV) (a1 : AV) (h : Hp) :  Option β :=
lenK a0 fun x1 =>
cL2 ((upd (upd (upd (tm0 [a0, a1]) 4 (.s (.int .i64 0))) 7 x1) 8 (.s (.int .i64 0))), h)
noncomputable def o_slices_IndexFunc_Leg (P : Program) (T : Tab) (D : DTab) (N : Nat) {β : Type} (K : AV → Hp → Option β) (a0 : AV) (a1 : AV) (h : Hp) : Option β := o_slices_IndexFunc_Leg_G P T D N (fun s => iterK (fun s k => o_slices_IndexFunc_Leg_L2 P T D N s.1 s.2 k) N s (o_slices_IndexFunc_Leg_aL2 P T D N K)) K a0 a1 h
noncomputable def f_slices_IndexFunc_Leg_j1 (P : Program) (T : Tab) (D : DTab) (N : Nat) {β : Type} (K : AV → Hp → Option β) (h : Hp) : Option β :=
K (.s (.int .i64 (-1))) h
noncomputable def f_slices_IndexFunc_Leg_b2 (P : Program) (T : Tab) (D : DTab) (N : Nat) {β : Type} (xn : AV → AV → AV → AV → Hp → Option β) (x0 : Hp → Option β) (xr : AV → Hp → Option β) (v0 : AV) (v1 : AV) (v7 : AV) (v8 : AV) (h : Hp) : Option β :=
arithK .lss v8 v7 fun x2 =>
condK x2 (
iaK 1 v0 v8 fun x3 =>
ldK 1 false x3 h fun x4 =>
callVK T v1 [x4] h fun x5 h6 =>
condK x5 (
xr v8 h6) (
arithK .add v8 (.s (.int .i64 1)) fun x7 =>
xn v0 v1 v7 x7 h6)) (
x0 h)
noncomputable def f_slices_IndexFunc_Leg_L2 (P : Program) (T : Tab) (D : DTab) (N : Nat) {β : Type} (x0 : Hp → Option β) (xr : AV → Hp → Option β) : Nat → AV → AV → AV → AV → Hp → Option β
  | 0 => fun _ _ _ _ _ => none
  | n + 1 => fun v0 v1 v7 v8 h => f_slices_IndexFunc_Leg_b2 P T D N (f_slices_IndexFunc_Leg_L2 P T D N x0 xr n) x0 xr v0 v1 v7 v8 h
noncomputable def f_slices_IndexFunc_Leg (P : Program) (T : Tab) (D : DTab) (N : Nat) {β : Type} (K : AV → Hp → Option β) (a0 : AV) (a1 : AV) (h : Hp) : Option β :=
lenK a0 fun x1 =>
f_slices_IndexFunc_Leg_L2 P T D N (fun h => f_slices_IndexFunc_Leg_j1 P T D N K h) (fun w9_4 h => K w9_4 h) N a0 a1 x1 (.s (.int .i64 0)) h
theorem f_slices_IndexFunc_Leg_b2_eq (P : Program) (T : Tab) (D : DTab) (N : Nat) {β : Type} (xn : AV → AV → AV → AV → Hp → Option β) (x0 : Hp → Option β) (xr : AV → Hp → Option β) (xd : Nat → St → Option β) (xq : St → Option β) (t : Tm) (h : Hp) : o_slices_IndexFunc_Leg_L2 P T D N t h (fun (e : Ex) (s : St) => e.on (xn (s.1 0) (s.1 1) (s.1 7) (s.1 8) s.2) (fun i => (bif i == 0 then x0 s.2 else (xd i s))) (xr (s.1 4) s.2)) = f_slices_IndexFunc_Leg_b2 P T D N xn x0 xr (t 0) (t 1) (t 7) (t 8) h := by kernel_rfl
theorem f_slices_IndexFunc_Leg_L2_eq (P : Program) (T : Tab) (D : DTab) (N : Nat) {β : Type} (A : Ex → St → Option β) (x0 : Hp → Option β) (xr : AV → Hp → Option β) (q0 : ∀ s, A (.exit 0) s = x0 s.2) (qr : ∀ s, A .ret s = xr (s.1 4) s.2) : ∀ (n : Nat) (s : St), iterK (fun s k => o_slices_IndexFunc_Leg_L2 P T D N s.1 s.2 k) n s A = f_slices_IndexFunc_Leg_L2 P T D N x0 xr n (s.1 0) (s.1 1) (s.1 7) (s.1 8) s.2 := by
  intro n
  induction n with
  | zero => intro s; rfl
  | succ n ih =>
    intro s
    have hk : (fun (e : Ex) (s' : St) => Ex.on e (iterK (fun s k => o_slices_IndexFunc_Leg_L2 P T D N s.1 s.2 k) n s' A) (fun i => A (.exit i) s') (A .ret s')) = (fun (e : Ex) (s : St) => e.on ((f_slices_IndexFunc_Leg_L2 P T D N x0 xr n) (s.1 0) (s.1 1) (s.1 7) (s.1 8) s.2) (fun i => (bif i == 0 then x0 s.2 else (A (.exit i) s))) (xr (s.1 4) s.2)) := by
      funext e s'
      cases e with
      | normal => exact ih s'
      | ret => exact qr s'
      | exit i =>
        by_cases r0 : i = 0
        · subst r0; exact q0 s'
        simp only [Ex.on, beq_false_of_ne r0, cond_false]
    show o_slices_IndexFunc_Leg_L2 P T D N s.1 s.2 (fun (e : Ex) (s' : St) => Ex.on e (iterK (fun s k => o_slices_IndexFunc_Leg_L2 P T D N s.1 s.2 k) n s' A) (fun i => A (.exit i) s') (A .ret s')) = _
    rw [hk]
    exact f_slices_IndexFunc_Leg_b2_eq P T D N (f_slices_IndexFunc_Leg_L2 P T D N x0 xr n) x0 xr (fun i s => A (.exit i) s) (fun s => A .ret s) s.1 s.2
theorem f_slices_IndexFunc_Leg_old_eq (P : Program) (T : Tab) (D : DTab) (N : Nat) {β : Type} (K : AV → Hp → Option β) (a0 : AV) (a1 : AV) (h : Hp) : o_slices_IndexFunc_Leg P T D N K a0 a1 h = f_slices_IndexFunc_Leg P T D N K a0 a1 h := by
  have eL2 : (fun s : St => iterK (fun s k => o_slices_IndexFunc_Leg_L2 P T D N s.1 s.2 k) N s (o_slices_IndexFunc_Leg_aL2 P T D N K)) = (fun s : St => f_slices_IndexFunc_Leg_L2 P T D N (fun h => f_slices_IndexFunc_Leg_j1 P T D N K h) (fun w9_4 h => K w9_4 h) N (s.1 0) (s.1 1) (s.1 7) (s.1 8) s.2) := funext fun s => f_slices_IndexFunc_Leg_L2_eq P T D N (o_slices_IndexFunc_Leg_aL2 P T D N K) (fun h => f_slices_IndexFunc_Leg_j1 P T D N K h) (fun w9_4 h => K w9_4 h) (fun s => rfl) (fun s => rfl) N s
  show o_slices_IndexFunc_Leg_G P T D N (fun s => iterK (fun s k => o_slices_IndexFunc_Leg_L2 P T D N s.1 s.2 k) N s (o_slices_IndexFunc_Leg_aL2 P T D N K)) K a0 a1 h = _
  rw [eL2]
  kernel_rfl
theorem o_slices_IndexFunc_Leg_run (T : Tab) (D : DTab) (N : Nat) {β : Type} (K : AV → Hp → Option β) (a0 : AV) (a1 : AV) (h : Hp) : runK Tryz.prog T D N [0, 1, 4, 5, 7, 8, 9, 16] Tryz.f78 K [a0, a1] h = o_slices_IndexFunc_Leg Tryz.prog T D N K a0 a1 h := by kernel_rfl
theorem f_slices_IndexFunc_Leg_run (T : Tab) (D : DTab) (N : Nat) {β : Type} (K : AV → Hp → Option β) (a0 : AV) (a1 : AV) (h : Hp) : runK Tryz.prog T D N [0, 1, 4, 5, 7, 8, 9, 16] Tryz.f78 K [a0, a1] h = f_slices_IndexFunc_Leg Tryz.prog T D N K a0 a1 h := (o_slices_IndexFunc_Leg_run T D N K a0 a1 h).trans (f_slices_IndexFunc_Leg_old_eq Tryz.prog T D N K a0 a1 h)
noncomputable def f_proportion_amounts (P : Program) (T : Tab) (D : DTab) (N : Nat) {β : Type} (K : AV → Hp → Option β) (a0 : AV) (h : Hp) : Option β :=
callK (T 93) [a0, (.fn 94 [])] h fun x1 h2 =>
notK x1 fun x3 =>
K x3 h2
theorem f_proportion_amounts_run (T : Tab) (D : DTab) (N : Nat) {β : Type} (K : AV → Hp → Option β) (a0 : AV) (h : Hp) : runK Tryz.prog T D N [0, 2] Tryz.f79 K [a0] h = f_proportion_amounts Tryz.prog T D N K a0 h := by kernel_rfl
noncomputable def f_proportion_divided (P : Program) (T : Tab) (D : DTab) (N : Nat) {β : Type} (K : AV → Hp → Option β) (a0 : AV) (a1 : AV) (a2 : AV) (h : Hp) : Option β :=
callK (T 96) [a0, a1] h fun x1 h2 =>
effK (boxE 2 (.agg [.s (.int .u64 0), .s (.int .u64 0)]) (List.length h2)) h2 fun x3 h4 =>
effK (stE 2 x3 x1 h4) h4 fun x5 h6 =>
iaA 1 2 x3 (.s (.int .i64 0)) fun x7 =>
ldK 1 false x7 h6 fun x8 =>
convK P 3 115 a2 fun x9 =>
arithK .geq x8 x9 fun x10 =>
condK x10 (
K (.tup [(.s (.int .i64 0)), (.s (.int .i64 0)), (.s (.bool false))]) h6) (
iaA 1 2 x3 (.s (.int .i64 0)) fun x11 =>
ldK 1 false x11 h6 fun x12 =>
iaA 1 2 x3 (.s (.int .i64 1)) fun x13 =>
ldK 1 false x13 h6 fun x14 =>
convK P 3 115 a2 fun x15 =>
callK (T 97) [x12, x14, x15] h6 fun x16 h17 =>
exK x16 0 fun x18 =>
exK x16 1 fun x19 =>
arithK .gtr x18 (.s (.int .u64 128849018880000)) fun x20 =>
condK x20 (
K (.tup [(.s (.int .i64 0)), (.s (.int .i64 0)), (.s (.bool false))]) h17) (
convK P 115 3 x18 fun x21 =>
convK P 115 3 x19 fun x22 =>
K (.tup [x21, x22, (.s (.bool true))]) h17))
theorem f_proportion_divided_run (T : Tab) (D : DTab) (N : Nat) {β : Type} (K : AV → Hp → Option β) (a0 : AV) (a1 : AV) (a2 : AV) (h : Hp) : runK Tryz.prog T D N [0, 1, 2, 6, 7, 8, 9, 10, 11, 19, 31] Tryz.f80 K [a0, a1, a2] h = f_proportion_divided Tryz.prog T D N K a0 a1 a2 h := by kernel_rfl
noncomputable def f_season_on_j3 (P : Program) (T : Tab) (D : DTab) (N : Nat) {β : Type} (K : AV → Hp → Option β) (v1 : AV) (v3 : AV) (v5 : AV) (v8 : AV) (v11 : AV) (h : Hp) : Option β :=
ldK 1 false v3 h fun x29 =>
ldK 1 false v5 h fun x30 =>
callK (T 102) [x29, x30] h fun x31 h32 =>
exK x31 0 fun x33 =>
exK x31 1 fun x34 =>
notK x34 fun x35 =>
condK x35 (
K (.tup [(.s (.int .i64 0)), v11]) h32) (
ldK 1 false v3 h32 fun x36 =>
faK 1 v8 fun x37 =>
ldK 1 false x37 h32 fun x38 =>
callK (T 103) [x36, x33, v1, x38] h32 fun x39 h40 =>
K (.tup [x39, v11]) h40)
noncomputable def f_season_on_j2 (P : Program) (T : Tab) (D : DTab) (N : Nat) {β : Type} (K : AV → Hp → Option β) (v1 : AV) (v3 : AV) (v5 : AV) (v8 : AV) (v11 : AV) (h : Hp) : Option β :=
ldK 1 false v3 h fun x41 =>
lenK x41 fun x42 =>
callK (T 100) [x42, (.fn 101 [v3, v5])] h fun x43 h44 =>
ldK 1 false v3 h44 fun x45 =>
lenK x45 fun x46 =>
arithK .lss x43 x46 fun x47 =>
condK x47 (
ldK 1 false v3 h44 fun x48 =>
iaK 4 x48 x43 fun x49 =>
faK 0 x49 fun x50 =>
ldK 1 false x50 h44 fun x51 =>
minK v11 x51 fun x52 =>
f_season_on_j3 P T D N K v1 v3 v5 v8 x52 h44) (
f_season_on_j3 P T D N K v1 v3 v5 v8 v11 h44)
noncomputable def f_season_on_j1 (P : Program) (T : Tab) (D : DTab) (N : Nat) {β : Type} (K : AV → Hp → Option β) (v1 : AV) (v3 : AV) (v5 : AV) (v8 : AV) (v10 : AV) (h : Hp) : Option β :=
ldK 3 true v10 h fun x24 =>
callK (T 99) [x24] h fun x25 h26 =>
exK x25 0 fun x27 =>
exK x25 1 fun x28 =>
eqK P true 28 x28 (.s (.int .i64 0)) h26 fun x53 =>
condK x53 (
f_season_on_j2 P T D N K v1 v3 v5 v8 (.s (.int .i64 100001)) h26) (
f_season_on_j2 P T D N K v1 v3 v5 v8 x27 h26)
noncomputable def f_season_on (P : Program) (T : Tab) (D : DTab) (N : Nat) {β : Type} (K : AV → Hp → Option β) (a0 : AV) (a1 : AV) (a2 : AV) (h : Hp) : Option β :=
effK (boxE 1 a0 (List.length h)) h fun x1 h2 =>
effK (boxE 1 a2 (List.length h2)) h2 fun x3 h4 =>
ldK 1 false x3 h4 fun x5 =>
callK (T 98) [x5] h4 fun x6 h7 =>
exK x6 0 fun x8 =>
exK x6 1 fun x9 =>
effK (boxE 3 (.agg [.s (.int .i64 0), .s (.int .i64 0), .s (.int .i64 0)]) (List.length h7)) h7 fun x10 h11 =>
effK (stE 3 x10 x8 h11) h11 fun x12 h13 =>
faK 0 x10 fun x14 =>
ldK 1 false x14 h13 fun x15 =>
faK 1 x10 fun x16 =>
ldK 1 false x16 h13 fun x17 =>
arithK .add x17 (.s (.int .i64 1)) fun x18 =>
buildK [.s (.int .i64 0), .s (.int .i64 0), .s (.int .i64 0)] [(some (0, 1), x15), (some (1, 1), x18), (some (2, 1), (.s (.int .i64 1)))] fun x19 =>
effK (boxE 3 (.agg [.s (.int .i64 0), .s (.int .i64 0), .s (.int .i64 0)]) (List.length h13)) h13 fun x20 h21 =>
effK (stE 3 x20 x19 h21) h21 fun x22 h23 =>
faK 1 x10 fun x54 =>
ldK 1 false x54 h23 fun x55 =>
eqK P false 3 x55 (.s (.int .i64 12)) h23 fun x56 =>
condK x56 (
faK 0 x10 fun x57 =>
ldK 1 false x57 h23 fun x58 =>
arithK .add x58 (.s (.int .i64 1)) fun x59 =>
faK 0 x20 fun x60 =>
effK (stE 1 x60 x59 h23) h23 fun x61 h62 =>
faK 1 x20 fun x63 =>
effK (stE 1 x63 (.s (.int .i64 1)) h62) h62 fun x64 h65 =>
f_season_on_j1 P T D N K a1 x1 x3 x10 x20 h65) (
f_season_on_j1 P T D N K a1 x1 x3 x10 x20 h23)
theorem f_season_on_run (T : Tab) (D : DTab) (N : Nat) {β : Type} (K : AV → Hp → Option β) (a0 : AV) (a1 : AV) (a2 : AV) (h : Hp) : runK Tryz.prog T D N [0, 1, 2, 3, 5, 6, 7, 8, 10, 11, 12, 13, 14, 15, 29, 41, 49, 64] Tryz.f81 K [a0, a1, a2] h = f_season_on Tryz.prog T D N K a0 a1 a2 h := by kernel_rfl
noncomputable def f_loss_split_1 (P : Program) (T : Tab) (D : DTab) (N : Nat) {β : Type} (K : AV → Hp → Option β) (a0 : AV) (a1 : AV) (h : Hp) : Option β :=
ldK 1 false a1 h fun x1 =>
minK a0 x1 fun x2 =>
ldK 1 false a1 h fun x3 =>
arithK .sub x3 x2 fun x4 =>
effK (stE 1 a1 x4 h) h fun x5 h6 =>
K x2 h6
theorem f_loss_split_1_run (T : Tab) (D : DTab) (N : Nat) {β : Type} (K : AV → Hp → Option β) (a0 : AV) (a1 : AV) (h : Hp) : runK Tryz.prog T D N [0, 1, 3, 4] Tryz.f82 K [a0, a1] h = f_loss_split_1 Tryz.prog T D N K a0 a1 h := by kernel_rfl
noncomputable def o_slices_IndexFunc_Message_j1 (P : Program) (T : Tab) (D : DTab) (N : Nat) {β : Type} (K : AV → Hp → Option β) (t : Tm) (h : Hp) : Option β :=
K (.s (.int .i64 (-1))) h
noncomputable def o_slices_IndexFunc_Message_L2 (P : Program) (T : Tab) (D : DTab) (N : Nat) {β : Type} (t : Tm) (h : Hp) (k : Ex → St → Option β) : Option β :=
arithK .lss (t 8) (t 7) fun x2 =>
condK x2 (
iaK 7 (t 0) (t 8) fun x3 =>
ldK 7 true x3 h fun x4 =>
callVK T (t 1) [x4] h fun x5 h6 =>
condK x5 (
k .ret ((upd (upd (upd (upd t 9 x2) 5 (t 8)) 16 x5) 4 (t 8)), h6)) (
arithK .add (t 8) (.s (.int .i64 1)) fun x7 =>
k .normal ((upd (upd (upd (upd t 9 x2) 5 (t 8)) 16 x5) 8 x7), h6))) (
k (.exit 0) ((upd t 9 x2), h))
noncomputable def o_slices_IndexFunc_Message_aL2 (P : Program) (T : Tab) (D : DTab) (N : Nat) {β : Type} (K : AV → Hp → Option β) (e : Ex) (s : St) : Option β :=
  e.on ((o_slices_IndexFunc_Message_j1 P T D N K s.1 s.2))
  (fun i => bif i == 0 then ((o_slices_IndexFunc_Message_j1 P T D N K s.1 s.2)) else (none))
  (K (s.1 4) s.2)
noncomputable def o_slices_IndexFunc_Message_G (P : Program) (T : Tab) (D : DTab) (N : Nat) {β : Type} (cL2 : St → Option β) (K : AV → Hp → Option β) (a0 : AV) (a1 : AV) (h : Hp) :  Option β :=
lenK a0 fun x1 =>
cL2 ((upd (upd (upd (tm0 [a0, a1]) 4 (.s (.int .i64 0))) 7 x1) 8 (.s (.int .i64 0))), h)
noncomputable def o_slices_IndexFunc_Message (P : Program) (T : Tab) (D : DTab) (N : Nat) {β : Type} (K : AV → Hp → Option β) (a0 : AV) (a1 : AV) (h : Hp) : Option β := o_slices_IndexFunc_Message_G P T D N (fun s => iterK (fun s k => o_slices_IndexFunc_Message_L2 P T D N s.1 s.2 k) N s (o_slices_IndexFunc_Message_aL2 P T D N K)) K a0 a1 h
noncomputable def f_slices_IndexFunc_Message_j1 (P : Program) (T : Tab) (D : DTab) (N : Nat) {β : Type} (K : AV → Hp → Option β) (h : Hp) : Option β :=
K (.s (.int .i64 (-1))) h
noncomputable def f_slices_IndexFunc_Message_b2 (P : Program) (T : Tab) (D : DTab) (N : Nat) {β : Type} (xn : AV → AV → AV → AV → Hp → Option β) (x0 : Hp → Option β) (xr : AV → Hp → Option β) (v0 : AV) (v1 : AV) (v7 : AV) (v8 : AV) (h : Hp) : Option β :=
arithK .lss v8 v7 fun x2 =>
condK x2 (
iaK 7 v0 v8 fun x3 =>
ldK 7 true x3 h fun x4 =>
callVK T v1 [x4] h fun x5 h6 =>
condK x5 (
xr v8 h6) (
arithK .add v8 (.s (.int .i64 1)) fun x7 =>
xn v0 v1 v7 x7 h6)) (
x0 h)
noncomputable def f_slices_IndexFunc_Message_L2 (P : Program) (T : Tab) (D : DTab) (N : Nat) {β : Type} (x0 : Hp → Option β) (xr : AV → Hp → Option β) : Nat → AV → AV → AV → AV → Hp → Option β
  | 0 => fun _ _ _ _ _ => none
  | n + 1 => fun v0 v1 v7 v8 h => f_slices_IndexFunc_Message_b2 P T D N (f_slices_IndexFunc_Message_L2 P T D N x0 xr n) x0 xr v0 v1 v7 v8 h
noncomputable def f_slices_IndexFunc_Message (P : Program) (T : Tab) (D : DTab) (N : Nat) {β : Type} (K : AV → Hp → Option β) (a0 : AV) (a1 : AV) (h : Hp) : Option β :=
lenK a0 fun x1 =>
f_slices_IndexFunc_Message_L2 P T D N (fun h => f_slices_IndexFunc_Message_j1 P T D N K h) (fun w9_4 h => K w9_4 h) N a0 a1 x1 (.s (.int .i64 0)) h
theorem f_slices_IndexFunc_Message_b2_eq (P : Program) (T : Tab) (D : DTab) (N : Nat) {β : Type} (xn : AV → AV → AV → AV → Hp → Option β) (x0 : Hp → Option β) (xr : AV → Hp → Option β) (xd : Nat → St → Option β) (xq : St → Option β) (t : Tm) (h : Hp) : o_slices_IndexFunc_Message_L2 P T D N t h (fun (e : Ex) (s : St) => e.on (xn (s.1 0) (s.1 1) (s.1 7) (s.1 8) s.2) (fun i => (bif i == 0 then x0 s.2 else (xd i s))) (xr (s.1 4) s.2)) = f_slices_IndexFunc_Message_b2 P T D N xn x0 xr (t 0) (t 1) (t 7) (t 8) h := by kernel_rfl
theorem f_slices_IndexFunc_Message_L2_eq (P : Program) (T : Tab) (D : DTab) (N : Nat) {β : Type} (A : Ex → St → Option β) (x0 : Hp → Option β) (xr : AV → Hp → Option β) (q0 : ∀ s, A (.exit 0) s = x0 s.2) (qr : ∀ s, A .ret s = xr (s.1 4) s.2) : ∀ (n : Nat) (s : St), iterK (fun s k => o_slices_IndexFunc_Message_L2 P T D N s.1 s.2 k) n s A = f_slices_IndexFunc_Message_L2 P T D N x0 xr n (s.1 0) (s.1 1) (s.1 7) (s.1 8) s.2 := by
  intro n
  induction n with
  | zero => intro s; rfl
  | succ n ih =>
    intro s
    have hk : (fun (e : Ex) (s' : St) => Ex.on e (iterK (fun s k => o_slices_IndexFunc_Message_L2 P T D N s.1 s.2 k) n s' A) (fun i => A (.exit i) s') (A .ret s')) = (fun (e : Ex) (s : St) => e.on ((f_slices_IndexFunc_Message_L2 P T D N x0 xr n) (s.1 0) (s.1 1) (s.1 7) (s.1 8) s.2) (fun i => (bif i == 0 then x0 s.2 else (A (.exit i) s))) (xr (s.1 4) s.2)) := by
      funext e s'
      cases e with
      | normal => exact ih s'
      | ret => exact qr s'
      | exit i =>
        by_cases r0 : i = 0
        · subst r0; exact q0 s'
        simp only [Ex.on, beq_false_of_ne r0, cond_false]
    show o_slices_IndexFunc_Message_L2 P T D N s.1 s.2 (fun (e : Ex) (s' : St) => Ex.on e (iterK (fun s k => o_slices_IndexFunc_Message_L2 P T D N s.1 s.2 k) n s' A) (fun i => A (.exit i) s') (A .ret s')) = _
    rw [hk]
    exact f_slices_IndexFunc_Message_b2_eq P T D N (f_slices_IndexFunc_Message_L2 P T D N x0 xr n) x0 xr (fun i s => A (.exit i) s) (fun s => A .ret s) s.1 s.2
theorem f_slices_IndexFunc_Message_old_eq (P : Program) (T : Tab) (D : DTab) (N : Nat) {β : Type} (K : AV → Hp → Option β) (a0 : AV) (a1 : AV) (h : Hp) : o_slices_IndexFunc_Message P T D N K a0 a1 h = f_slices_IndexFunc_Message P T D N K a0 a1 h := by
  have eL2 : (fun s : St => iterK (fun s k => o_slices_IndexFunc_Message_L2 P T D N s.1 s.2 k) N s (o_slices_IndexFunc_Message_aL2 P T D N K)) = (fun s : St => f_slices_IndexFunc_Message_L2 P T D N (fun h => f_slices_IndexFunc_Message_j1 P T D N K h) (fun w9_4 h => K w9_4 h) N (s.1 0) (s.1 1) (s.1 7) (s.1 8) s.2) := funext fun s => f_slices_IndexFunc_Message_L2_eq P T D N (o_slices_IndexFunc_Message_aL2 P T D N K) (fun h => f_slices_IndexFunc_Message_j1 P T D N K h) (fun w9_4 h => K w9_4 h) (fun s => rfl) (fun s => rfl) N s
  show o_slices_IndexFunc_Message_G P T D N (fun s => iterK (fun s k => o_slices_IndexFunc_Message_L2 P T D N s.1 s.2 k) N s (o_slices_IndexFunc_Message_aL2 P T D N K)) K a0 a1 h = _
  rw [eL2]
  kernel_rfl
theorem o_slices_IndexFunc_Message_run (T : Tab) (D : DTab) (N : Nat) {β : Type} (K : AV → Hp → Option β) (a0 : AV) (a1 : AV) (h : Hp) : runK Tryz.prog T D N [0, 1, 4, 5, 7, 8, 9, 16] Tryz.f87 K [a0, a1] h = o_slices_IndexFunc_Message Tryz.prog T D N K a0 a1 h := by kernel_rfl
theorem f_slices_IndexFunc_Message_run (T : Tab) (D : DTab) (N : Nat) {β : Type} (K : AV → Hp → Option β) (a0 : AV) (a1 : AV) (h : Hp) : runK Tryz.prog T D N [0, 1, 4, 5, 7, 8, 9, 16] Tryz.f87 K [a0, a1] h = f_slices_IndexFunc_Message Tryz.prog T D N K a0 a1 h := (o_slices_IndexFunc_Message_run T D N K a0 a1 h).trans (f_slices_IndexFunc_Message_old_eq Tryz.prog T D N K a0 a1 h)
noncomputable def f_document_node (P : Program) (T : Tab) (D : DTab) (N : Nat) {β : Type} (K : AV → Hp → Option β) (a0 : AV) (h : Hp) : Option β :=
arithK .geq a0 (.s (.int .i64 1)) fun x1 =>
grpK true x1 h (fun k2 =>
arithK .leq a0 (.s (.int .i64 99)) fun x3 =>
k2 x3 h) fun x4 h5 =>
K x4 h5
theorem f_document_node_run (T : Tab) (D : DTab) (N : Nat) {β : Type} (K : AV → Hp → Option β) (a0 : AV) (h : Hp) : runK Tryz.prog T D N [0, 2] Tryz.f88 K [a0] h = f_document_node Tryz.prog T D N K a0 h := by kernel_rfl
noncomputable def o_cmp_Or_int_j1 (P : Program) (T : Tab) (D : DTab) (N : Nat) {β : Type} (K : AV → Hp → Option β) (t : Tm) (h : Hp) : Option β :=
K (t 3) h
noncomputable def o_cmp_Or_int_L2 (P : Program) (T : Tab) (D : DTab) (N : Nat) {β : Type} (t : Tm) (h : Hp) (k : Ex → St → Option β) : Option β :=
arithK .lss (t 8) (t 7) fun x2 =>
condK x2 (
iaK 1 (t 6) (t 8) fun x3 =>
ldK 1 false x3 h fun x4 =>
eqK P true 3 x4 (t 3) h fun x5 =>
condK x5 (
k .ret ((upd (upd (upd (upd t 9 x2) 5 x4) 14 x5) 2 x4), h)) (
arithK .add (t 8) (.s (.int .i64 1)) fun x6 =>
k .normal ((upd (upd (upd (upd t 9 x2) 5 x4) 14 x5) 8 x6), h))) (
k (.exit 0) ((upd t 9 x2), h))
noncomputable def o_cmp_Or_int_aL2 (P : Program) (T : Tab) (D : DTab) (N : Nat) {β : Type} (K : AV → Hp → Option β) (e : Ex) (s : St) : Option β :=
  e.on ((o_cmp_Or_int_j1 P T D N K s.1 s.2))
  (fun i => bif i == 0 then ((o_cmp_Or_int_j1 P T D N K s.1 s.2)) else (none))
  (K (s.1 2) s.2)
noncomputable def o_cmp_Or_int_G (P : Program) (T : Tab) (D : DTab) (N : Nat) {β : Type} (cL2 : St → Option β) (K : AV → Hp → Option β) (a0 : AV) (h : Hp) :  Option β :=
lenK a0 fun x1 =>
cL2 ((upd (upd (upd (upd (upd (tm0 [a0]) 2 (.s (.int .i64 0))) 3 (.s (.int .i64 0))) 6 a0) 7 x1) 8 (.s (.int .i64 0))), h)
noncomputable def o_cmp_Or_int (P : Program) (T : Tab) (D : DTab) (N : Nat) {β : Type} (K : AV → Hp → Option β) (a0 : AV) (h : Hp) : Option β := o_cmp_Or_int_G P T D N (fun s => iterK (fun s k => o_cmp_Or_int_L2 P T D N s.1 s.2 k) N s (o_cmp_Or_int_aL2 P T D N K)) K a0 h
noncomputable def f_cmp_Or_int_j1 (P : Program) (T : Tab) (D : DTab) (N : Nat) {β : Type} (K : AV → Hp → Option β) (v3 : AV) (h : Hp) : Option β :=
K v3 h
noncomputable def f_cmp_Or_int_b2 (P : Program) (T : Tab) (D : DTab) (N : Nat) {β : Type} (xn : AV → AV → AV → AV → Hp → Option β) (x0 : AV → Hp → Option β) (xr : AV → Hp → Option β) (v3 : AV) (v6 : AV) (v7 : AV) (v8 : AV) (h : Hp) : Option β :=
arithK .lss v8 v7 fun x2 =>
condK x2 (
iaK 1 v6 v8 fun x3 =>
ldK 1 false x3 h fun x4 =>
eqK P true 3 x4 v3 h fun x5 =>
condK x5 (
xr x4 h) (
arithK .add v8 (.s (.int .i64 1)) fun x6 =>
xn v3 v6 v7 x6 h)) (
x0 v3 h)
noncomputable def f_cmp_Or_int_L2 (P : Program) (T : Tab) (D : DTab) (N : Nat) {β : Type} (x0 : AV → Hp → Option β) (xr : AV → Hp → Option β) : Nat → AV → AV → AV → AV → Hp → Option β
  | 0 => fun _ _ _ _ _ => none
  | n + 1 => fun v3 v6 v7 v8 h => f_cmp_Or_int_b2 P T D N (f_cmp_Or_int_L2 P T D N x0 xr n) x0 xr v3 v6 v7 v8 h
noncomputable def f_cmp_Or_int (P : Program) (T : Tab) (D : DTab) (N : Nat) {β : Type} (K : AV → Hp → Option β) (a0 : AV) (h : Hp) : Option β :=
lenK a0 fun x1 =>
f_cmp_Or_int_L2 P T D N (fun w7_3 h => f_cmp_Or_int_j1 P T D N K w7_3 h) (fun w8_2 h => K w8_2 h) N (.s (.int .i64 0)) a0 x1 (.s (.int .i64 0)) h
theorem f_cmp_Or_int_b2_eq (P : Program) (T : Tab) (D : DTab) (N : Nat) {β : Type} (xn : AV → AV → AV → AV → Hp → Option β) (x0 : AV → Hp → Option β) (xr : AV → Hp → Option β) (xd : Nat → St → Option β) (xq : St → Option β) (t : Tm) (h : Hp) : o_cmp_Or_int_L2 P T D N t h (fun (e : Ex) (s : St) => e.on (xn (s.1 3) (s.1 6) (s.1 7) (s.1 8) s.2) (fun i => (bif i == 0 then x0 (s.1 3) s.2 else (xd i s))) (xr (s.1 2) s.2)) = f_cmp_Or_int_b2 P T D N xn x0 xr (t 3) (t 6) (t 7) (t 8) h := by kernel_rfl
theorem f_cmp_Or_int_L2_eq (P : Program) (T : Tab) (D : DTab) (N : Nat) {β : Type} (A : Ex → St → Option β) (x0 : AV → Hp → Option β) (xr : AV → Hp → Option β) (q0 : ∀ s, A (.exit 0) s = x0 (s.1 3) s.2) (qr : ∀ s, A .ret s = xr (s.1 2) s.2) : ∀ (n : Nat) (s : St), iterK (fun s k => o_cmp_Or_int_L2 P T D N s.1 s.2 k) n s A = f_cmp_Or_int_L2 P T D N x0 xr n (s.1 3) (s.1 6) (s.1 7) (s.1 8) s.2 := by
  intro n
  induction n with
  | zero => intro s; rfl
  | succ n ih =>
    intro s
    have hk : (fun (e : Ex) (s' : St) => Ex.on e (iterK (fun s k => o_cmp_Or_int_L2 P T D N s.1 s.2 k) n s' A) (fun i => A (.exit i) s') (A .ret s')) = (fun (e : Ex) (s : St) => e.on ((f_cmp_Or_int_L2 P T D N x0 xr n) (s.1 3) (s.1 6) (s.1 7) (s.1 8) s.2) (fun i => (bif i == 0 then x0 (s.1 3) s.2 else (A (.exit i) s))) (xr (s.1 2) s.2)) := by
      funext e s'
      cases e with
      | normal => exact ih s'
      | ret => exact qr s'
      | exit i =>
        by_cases r0 : i = 0
        · subst r0; exact q0 s'
        simp only [Ex.on, beq_false_of_ne r0, cond_false]
    show o_cmp_Or_int_L2 P T D N s.1 s.2 (fun (e : Ex) (s' : St) => Ex.on e (iterK (fun s k => o_cmp_Or_int_L2 P T D N s.1 s.2 k) n s' A) (fun i => A (.exit i) s') (A .ret s')) = _
    rw [hk]
    exact f_cmp_Or_int_b2_eq P T D N (f_cmp_Or_int_L2 P T D N x0 xr n) x0 xr (fun i s => A (.exit i) s) (fun s => A .ret s) s.1 s.2
theorem f_cmp_Or_int_old_eq (P : Program) (T : Tab) (D : DTab) (N : Nat) {β : Type} (K : AV → Hp → Option β) (a0 : AV) (h : Hp) : o_cmp_Or_int P T D N K a0 h = f_cmp_Or_int P T D N K a0 h := by
  have eL2 : (fun s : St => iterK (fun s k => o_cmp_Or_int_L2 P T D N s.1 s.2 k) N s (o_cmp_Or_int_aL2 P T D N K)) = (fun s : St => f_cmp_Or_int_L2 P T D N (fun w7_3 h => f_cmp_Or_int_j1 P T D N K w7_3 h) (fun w8_2 h => K w8_2 h) N (s.1 3) (s.1 6) (s.1 7) (s.1 8) s.2) := funext fun s => f_cmp_Or_int_L2_eq P T D N (o_cmp_Or_int_aL2 P T D N K) (fun w7_3 h => f_cmp_Or_int_j1 P T D N K w7_3 h) (fun w8_2 h => K w8_2 h) (fun s => rfl) (fun s => rfl) N s
  show o_cmp_Or_int_G P T D N (fun s => iterK (fun s k => o_cmp_Or_int_L2 P T D N s.1 s.2 k) N s (o_cmp_Or_int_aL2 P T D N K)) K a0 h = _
  rw [eL2]
  kernel_rfl
theorem o_cmp_Or_int_run (T : Tab) (D : DTab) (N : Nat) {β : Type} (K : AV → Hp → Option β) (a0 : AV) (h : Hp) : runK Tryz.prog T D N [0, 2, 3, 5, 6, 7, 8, 9, 14] Tryz.f91 K [a0] h = o_cmp_Or_int Tryz.prog T D N K a0 h := by kernel_rfl
theorem f_cmp_Or_int_run (T : Tab) (D : DTab) (N : Nat) {β : Type} (K : AV → Hp → Option β) (a0 : AV) (h : Hp) : runK Tryz.prog T D N [0, 2, 3, 5, 6, 7, 8, 9, 14] Tryz.f91 K [a0] h = f_cmp_Or_int Tryz.prog T D N K a0 h := (o_cmp_Or_int_run T D N K a0 h).trans (f_cmp_Or_int_old_eq Tryz.prog T D N K a0 h)
noncomputable def f_cmp_Compare_int (P : Program) (T : Tab) (D : DTab) (N : Nat) {β : Type} (K : AV → Hp → Option β) (a0 : AV) (a1 : AV) (h : Hp) : Option β :=
callK (T 120) [a0] h fun x1 h2 =>
callK (T 120) [a1] h2 fun x3 h4 =>
condK x1 (
condK x3 (
K (.s (.int .i64 0)) h4) (
K (.s (.int .i64 (-1))) h4)) (
condK x3 (
K (.s (.int .i64 1)) h4) (
arithK .lss a0 a1 fun x5 =>
condK x5 (
K (.s (.int .i64 (-1))) h4) (
arithK .gtr a0 a1 fun x6 =>
condK x6 (
K (.s (.int .i64 1)) h4) (
K (.s (.int .i64 0)) h4))))
theorem f_cmp_Compare_int_run (T : Tab) (D : DTab) (N : Nat) {β : Type} (K : AV → Hp → Option β) (a0 : AV) (a1 : AV) (h : Hp) : runK Tryz.prog T D N [0, 1, 4, 5, 6, 11, 12, 13, 16, 19] Tryz.f92 K [a0, a1] h = f_cmp_Compare_int Tryz.prog T D N K a0 a1 h := by kernel_rfl
noncomputable def f_slices_ContainsFunc_int (P : Program) (T : Tab) (D : DTab) (N : Nat) {β : Type} (K : AV → Hp → Option β) (a0 : AV) (a1 : AV) (h : Hp) : Option β :=
callK (T 121) [a0, a1] h fun x1 h2 =>
arithK .geq x1 (.s (.int .i64 0)) fun x3 =>
K x3 h2
theorem f_slices_ContainsFunc_int_run (T : Tab) (D : DTab) (N : Nat) {β : Type} (K : AV → Hp → Option β) (a0 : AV) (a1 : AV) (h : Hp) : runK Tryz.prog T D N [0, 1, 4] Tryz.f93 K [a0, a1] h = f_slices_ContainsFunc_int Tryz.prog T D N K a0 a1 h := by kernel_rfl
noncomputable def f_proportion_amounts_1 (P : Program) (T : Tab) (D : DTab) (N : Nat) {β : Type} (K : AV → Hp → Option β) (a0 : AV) (h : Hp) : Option β :=
callK (T 95) [a0] h fun x1 h2 =>
notK x1 fun x3 =>
K x3 h2
theorem f_proportion_amounts_1_run (T : Tab) (D : DTab) (N : Nat) {β : Type} (K : AV → Hp → Option β) (a0 : AV) (h : Hp) : runK Tryz.prog T D N [0, 2] Tryz.f94 K [a0] h = f_proportion_amounts_1 Tryz.prog T D N K a0 h := by kernel_rfl
noncomputable def f_proportion_amount (P : Program) (T : Tab) (D : DTab) (N : Nat) {β : Type} (K : AV → Hp → Option β) (a0 : AV) (h : Hp) : Option β :=
arithK .geq a0 (.s (.int .i64 0)) fun x1 =>
grpK true x1 h (fun k2 =>
arithK .leq a0 (.s (.int .i64 128849018880000)) fun x3 =>
k2 x3 h) fun x4 h5 =>
K x4 h5
theorem f_proportion_amount_run (T : Tab) (D : DTab) (N : Nat) {β : Type} (K : AV → Hp → Option β) (a0 : AV) (h : Hp) : runK Tryz.prog T D N [0, 2] Tryz.f95 K [a0] h = f_proportion_amount Tryz.prog T D N K a0 h := by kernel_rfl
end Go.AM
