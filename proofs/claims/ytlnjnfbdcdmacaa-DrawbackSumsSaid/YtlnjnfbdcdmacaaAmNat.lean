import Derived.Test.YtlnjnfbdcdmacaaAmRel
namespace Go.AM
set_option linter.unusedVariables false
variable {β : Type}
/-! A continuation handed on is the answer first and then the continuation. -/
theorem arithK_nat (op : BinOp) (x y : AV) (k : K β) : arithK op x y k = (arithK op x y some).bind k := by
  unfold arithK; split <;> first | rfl | (split <;> first | rfl | (split <;> rfl))
theorem reckK_nat (P : Program) (op : BinOp) (ty : TypeId) (x y : AV) (k : K β) : reckK P op ty x y k = (reckK P op ty x y some).bind k := by
  unfold reckK; split <;> first | rfl | (split <;> first | rfl | (split <;> rfl))
theorem eqK_nat (P : Program) (neq : Bool) (ty : TypeId) (x y : AV) (h : Hp) (k : K β) : eqK P neq ty x y h k = (eqK P neq ty x y h some).bind k := by
  unfold eqK; split
  · split <;> rfl
  · split <;> rfl
  · split
    · split <;> rfl
    · rfl
  · split <;> rfl
  · exact reckK_nat ..
theorem binK_nat (P : Program) (op : BinOp) (ty : TypeId) (x y : AV) (h : Hp) (k : K β) : binK P op ty x y h k = (binK P op ty x y h some).bind k := by
  unfold binK; split <;> first | exact arithK_nat .. | exact eqK_nat .. | exact reckK_nat ..
theorem notK_nat (x : AV) (k : K β) : notK x k = (notK x some).bind k := by unfold notK; split <;> rfl
theorem unK_nat (P : Program) (op : UnOp) (x : AV) (k : K β) : unK P op x k = (unK P op x some).bind k := by
  unfold unK; split
  · exact notK_nat ..
  · split <;> first | rfl | (split <;> first | rfl | (split <;> rfl))
theorem convK_nat (P : Program) (a b : TypeId) (x : AV) (k : K β) : convK P a b x k = (convK P a b x some).bind k := by
  unfold convK; split <;> first | rfl | (split <;> first | rfl | (split <;> rfl))
theorem pickK_nat (c a b : AV) (k : K β) : pickK c a b k = (pickK c a b some).bind k := by unfold pickK; split <;> rfl
theorem buildK_nat (z : List AV) (ps : List (Option (Nat × Nat) × AV)) (k : K β) : buildK z ps k = (buildK z ps some).bind k := by unfold buildK; split <;> rfl
theorem ldK_nat (n : Nat) (agg : Bool) (p : AV) (h : Hp) (k : K β) : ldK n agg p h k = (ldK n agg p h some).bind k := by
  unfold ldK; split <;> first | rfl | (split <;> first | rfl | (split <;> first | rfl | (split <;> first | rfl | (split <;> rfl))))
theorem nilK_nat (x : AV) (k : K β) : nilK x k = (nilK x some).bind k := by unfold nilK; split <;> rfl
theorem sliceK_nat (n : Nat) (x : AV) (lo hi mx : Option AV) (k : K β) : sliceK n x lo hi mx k = (sliceK n x lo hi mx some).bind k := by
  unfold sliceK; split <;> first | rfl | (split <;> first | rfl | (split <;> rfl))
theorem faK_nat (off : Nat) (p : AV) (k : K β) : faK off p k = (faK off p some).bind k := by unfold faK; split <;> rfl
theorem fldK_nat (n : Nat) (agg : Bool) (off : Nat) (x : AV) (k : K β) : fldK n agg off x k = (fldK n agg off x some).bind k := by
  unfold fldK; split <;> first | rfl | (split <;> rfl)
theorem iaK_nat (n : Nat) (x i : AV) (k : K β) : iaK n x i k = (iaK n x i some).bind k := by unfold iaK; split <;> first | rfl | (split <;> first | rfl | (split <;> rfl))
theorem iaA_nat (n len : Nat) (x i : AV) (k : K β) : iaA n len x i k = (iaA n len x i some).bind k := by unfold iaA; split <;> first | rfl | (split <;> rfl)
theorem chK_nat (x i : AV) (k : K β) : chK x i k = (chK x i some).bind k := by unfold chK; split <;> first | rfl | (split <;> first | rfl | (split <;> rfl))
theorem lookK_nat (P : Program) (kt : TypeId) (z : AV) (ok : Bool) (m kk : AV) (h : Hp) (k : K β) : lookK P kt z ok m kk h k = (lookK P kt z ok m kk h some).bind k := by
  unfold lookK; split <;> first | rfl | (split <;> first | rfl | (split <;> first | rfl | (split <;> rfl)))
theorem exK_nat (x : AV) (i : Nat) (k : K β) : exK x i k = (exK x i some).bind k := by unfold exK; split <;> first | rfl | (split <;> rfl)
theorem lenK_nat (x : AV) (k : K β) : lenK x k = (lenK x some).bind k := by unfold lenK; split <;> rfl
theorem lenM_nat (x : AV) (h : Hp) (k : K β) : lenM x h k = (lenM x h some).bind k := by unfold lenM; split <;> first | rfl | (split <;> rfl)
theorem minK_nat (x y : AV) (k : K β) : minK x y k = (minK x y some).bind k := by unfold minK; split <;> first | rfl | (split <;> rfl)
theorem maxK_nat (x y : AV) (k : K β) : maxK x y k = (maxK x y some).bind k := by unfold maxK; split <;> first | rfl | (split <;> rfl)
theorem pureK_nat (P : Program) (r : Operand → AV) (h : Hp) (o : Op) (k : K β) : pureK P r h o k = (pureK P r h o some).bind k := by
  unfold pureK
  cases o <;> try rfl
  case pick => exact pickK_nat ..
  case build => dsimp only; split <;> first | rfl | exact buildK_nat ..
  case load => dsimp only; split <;> first | rfl | exact ldK_nat ..
  case nilCheck => exact nilK_nat ..
  case binOp => exact binK_nat ..
  case unOp => exact unK_nat ..
  case convert => exact convK_nat ..
  case makeFunc fn first caps => cases fn <;> first | rfl | (dsimp only; split <;> rfl)
  case slice => dsimp only; split <;> first | rfl | exact sliceK_nat ..
  case fieldAddr => dsimp only; split <;> first | rfl | (split <;> first | rfl | exact faK_nat ..)
  case field => dsimp only; split <;> first | rfl | (split <;> first | rfl | exact fldK_nat ..)
  case indexAddr => dsimp only; split <;> (split <;> first | rfl | exact iaK_nat .. | exact iaA_nat ..)
  case index => dsimp only; split <;> first | rfl | exact chK_nat ..
  case lookup => dsimp only; split <;> first | rfl | (split <;> first | rfl | exact lookK_nat ..)
  case extract => exact exK_nat ..
  case call c =>
    dsimp only
    split
    · split <;> first | rfl | (split <;> first | rfl | exact lenK_nat .. | exact lenM_nat ..)
    · split <;> first | rfl | exact minK_nat ..
    · split <;> first | rfl | exact maxK_nat ..
    · rfl
end Go.AM
