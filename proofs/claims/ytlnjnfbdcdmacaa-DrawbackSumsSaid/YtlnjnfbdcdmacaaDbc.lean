import Derived.Test.YtlnjnfbdcdmacaaDbb
import Derived.Test.YtlnjnfbdcdmacaaAmMap
/- drawback: the faults of a claim; carry. -/
namespace Go.AM
open Go.Proofs
set_option linter.unusedVariables false
set_option linter.unusedSimpArgs false
set_option linter.constructorNameAsVariable false
set_option maxRecDepth 20000
def okP (p : Paid) : Prop := badP p = false
def bad1 (c : Claim) : Bool := !win c.paid 1 1073741824 || !win c.day 0 100000 || !win c.alc 1 10737418240000
def claimedOf (cs : List Claim) (n : Int) : Int := ((cs.filter (fun c => c.paid = n)).map (·.alc)).foldr (· + ·) 0
def partOf (p : Paid) (n : Int) : Int := (propOf p.duty n p.alc).1
section
variable {β : Type} {P : Program} {T : Tab} {D : DTab} {N : Nat} {K : AV → Hp → Option β}
theorem F_drawback_part_val (p : Paid) (n : Int) (h : Hp) : F_drawback_part [.agg (encP p), I n] h = some (I (partOf p n), h) := by
  refine F_drawback_part_run (by simp [encP]) ?_ h
  simp [f_drawback_part, encP, F_proportion_Of_val, partOf]
/-- The file on which claims are carried out. -/
abbrev fileO (last limit : Int) : AObj := .arr 4 [[.mp 0, .mp 1, I last, I limit]] true false
abbrev fileH (kp kc : List (Value × AV)) (last limit : Int) (g : List AObj) : Hp := .map kp :: .map kc :: fileO last limit :: g
structure PaidAt (kp : List (Value × AV)) (paid : Int → Option Paid) : Prop where
  keys : intKeys .i64 kp
  get : ∀ n, getKV kp n = (paid n).map fun p => .agg (encP p)
structure ClaimedAt (kc : List (Value × AV)) (cl : Int → Int) : Prop where
  keys : intKeys .i64 kc
  get : ∀ n, getKV kc n = some (I (cl n)) ∨ (getKV kc n = none ∧ cl n = 0)
section
variable {kp kc : List (Value × AV)} {last limit : Int} {g : List AObj} {paid : Int → Option Paid} {cl : Int → Int} {c : Claim}
abbrev zP : AV := .agg [I 0, I 0, I 0, I 0, I 0]
theorem look_paid (A : PaidAt kp paid) {h : Hp} (hid : h[0]? = some (.map kp)) (ok : Bool) (n : Int) (k : Go.AM.K β) : lookK Try.prog 3 zP ok (.mp 0) (I n) h k = match paid n with
    | some p => k (if ok then .tup [.agg (encP p), B true] else .agg (encP p))
    | none => k (if ok then .tup [zP, B false] else zP) := by
  rw [lookK_int un_3 hid A.keys, A.get]
  cases paid n <;> rfl
theorem look_claimed (A : ClaimedAt kc cl) {h : Hp} (hid : h[1]? = some (.map kc)) (n : Int) (k : Go.AM.K β) : lookK Try.prog 3 (I 0) false (.mp 1) (I n) h k = k (I (cl n)) := by
  rw [lookK_int un_3 hid A.keys]
  rcases A.get n with e | ⟨e, e0⟩
  · rw [e]; simp
  · rw [e, e0]; simp
theorem fault1 (h : Hp) (x : AV) : F_drawback_faults_1 [x, .agg (encC c)] h = some (B (bad1 c), h) := by
  refine F_drawback_faults_1_q (g := [.arr 3 [encC c] true false]) ?_ rfl
  simp [f_drawback_faults_1, encC, F_drawback_within_val, bad1]
theorem fault2 : F_drawback_faults_2 [.ptr 2 0 0 1, .agg (encC c)] (fileH kp kc last limit g) = some (B (decide (c.day < last)), fileH kp kc last limit g) := by
  refine F_drawback_faults_2_q (g := [.arr 3 [encC c] true false]) ?_ rfl
  simp [f_drawback_faults_2, encC, get_new]
theorem fault3 (A : PaidAt kp paid) : F_drawback_faults_3 [.ptr 2 0 0 1, .agg (encC c)] (fileH kp kc last limit g) = some (B (paid c.paid).isNone, fileH kp kc last limit g) := by
  refine F_drawback_faults_3_q (g := match paid c.paid with | some p => [.arr 3 [encC c] true false, .arr 5 [encP p] true false] | none => [.arr 3 [encC c] true false, .arr 5 [[I 0, I 0, I 0, I 0, I 0]] true false]) ?_ rfl
  have L := fun (h : Hp) (hid : h[0]? = some (.map kp)) (k : Go.AM.K (AV × Hp)) => look_paid A hid true c.paid k
  simp only [f_drawback_faults_3, encC]
  simp
  rw [L _ (by simp)]
  cases paid c.paid with
  | none => simp [boxE, effD, disjAll, disj2, wrOf, idsOf]
  | some p => simp [boxE, effD, disjAll, disj2, wrOf, idsOf, encP]
theorem fault4 (A : PaidAt kp paid) {p : Paid} (hp : paid c.paid = some p) : F_drawback_faults_4 [.ptr 2 0 0 1, .agg (encC c)] (fileH kp kc last limit g) = some (B (decide (c.day < p.day)), fileH kp kc last limit g) := by
  refine F_drawback_faults_4_q (g := [.arr 3 [encC c] true false]) ?_ rfl
  have L := fun (h : Hp) (hid : h[0]? = some (.map kp)) (k : Go.AM.K (AV × Hp)) => look_paid A hid false c.paid k
  simp only [f_drawback_faults_4, encC]
  simp
  rw [L _ (by simp), hp]
  simp [fldK, encP]
theorem fault5 (A : PaidAt kp paid) {p : Paid} (hp : paid c.paid = some p) (hw : IntKind.i64.wrap (c.day - p.day) = c.day - p.day) : F_drawback_faults_5 [.ptr 2 0 0 1, .agg (encC c)] (fileH kp kc last limit g) = some (B (decide (limit < c.day - p.day)), fileH kp kc last limit g) := by
  refine F_drawback_faults_5_q (g := [.arr 3 [encC c] true false]) ?_ rfl
  have L := fun (h : Hp) (hid : h[0]? = some (.map kp)) (k : Go.AM.K (AV × Hp)) => look_paid A hid false c.paid k
  simp only [f_drawback_faults_5, encC]
  simp
  rw [L _ (by simp), hp]
  simp [fldK, encP, hw]
theorem fault6 (A : PaidAt kp paid) (C : ClaimedAt kc cl) {p : Paid} (hp : paid c.paid = some p) (hw : IntKind.i64.wrap (cl c.paid + c.alc) = cl c.paid + c.alc) : F_drawback_faults_6 [.ptr 2 0 0 1, .agg (encC c)] (fileH kp kc last limit g) = some (B (decide (p.alc < cl c.paid + c.alc)), fileH kp kc last limit g) := by
  refine F_drawback_faults_6_q (g := [.arr 3 [encC c] true false]) ?_ rfl
  have L := fun (h : Hp) (hid : h[0]? = some (.map kp)) (k : Go.AM.K (AV × Hp)) => look_paid A hid false c.paid k
  have L2 := fun (h : Hp) (hid : h[1]? = some (.map kc)) (k : Go.AM.K (AV × Hp)) => look_claimed C hid c.paid k
  simp only [f_drawback_faults_6, encC]
  simp
  rw [L2 _ (by simp)]
  simp [hw]
  rw [L _ (by simp), hp]
  simp [fldK, encP, hw]
end
end
end Go.AM
