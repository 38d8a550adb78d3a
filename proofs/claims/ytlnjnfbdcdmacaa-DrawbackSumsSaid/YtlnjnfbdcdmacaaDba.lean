import Derived.Test.YtlnjnfbdcdmacaaProp
/- drawback: Check, Clone, part. -/
namespace Go.AM
open Go.Proofs
set_option linter.unusedVariables false
set_option linter.unusedSimpArgs false
set_option linter.constructorNameAsVariable false
set_option maxRecDepth 20000
structure Paid where
  id : Int
  cls : Int
  day : Int
  alc : Int
  duty : Int
deriving DecidableEq
structure Claim where
  paid : Int
  day : Int
  alc : Int
deriving DecidableEq
def encP (p : Paid) : List AV := [I p.id, I p.cls, I p.day, I p.alc, I p.duty]
def encC (c : Claim) : List AV := [I c.paid, I c.day, I c.alc]
def win (n lo hi : Int) : Bool := decide (lo ≤ n) && decide (n ≤ hi)
section
variable {β : Type} {P : Program} {T : Tab} {D : DTab} {N : Nat} {K : AV → Hp → Option β}
theorem F_drawback_within_val (a b c : Int) (h : Hp) : F_drawback_within [I a, I b, I c] h = some (B (win a b c), h) := F_drawback_within_run rfl (by simp [f_drawback_within, win]) h
def badP (p : Paid) : Bool := !win p.id 1 1073741824 || !win p.cls 1 9 || !win p.day 0 100000 || !win p.alc 1 10737418240000 || !win p.duty 0 1099511627776
def checkAt : Option Int → List Paid → Int → Option (Int × Int)
  | _, [], _ => none
  | prev, p :: l, i => if badP p then some (i, 2) else if (match prev with | some q => decide (p.id ≤ q) | none => false) then some (i, 5) else checkAt (some p.id) l (i + 1)
def checkP (l : List Paid) : Int × Int := if 64 < l.length then (-1, 8) else (checkAt none l 0).getD (-1, 0)
section
variable {xn : AV → AV → AV → AV → Hp → Option β} {x0 : Hp → Option β} {xr : AV → AV → Hp → Option β} {l : List Paid} {b : Bool} {h : Hp}
theorem Check_b2_first (hT : T 27 = some F_drawback_within) (hl : 0 < l.length) :
    f_drawback_Check_b2 P T D N xn x0 xr (.lst 5 b (l.map encP)) (.lst 5 b (l.map encP)) (I l.length) (I 0) h = if badP l[0] then xr (I 0) (I 2) (h ++ [.arr 5 [encP l[0]] true false]) else xn (.lst 5 b (l.map encP)) (.lst 5 b (l.map encP)) (I l.length) (I 1) (h ++ [.arr 5 [encP l[0]] true false]) := by
  have hlt : ((0 : Int) < (l.length : Int)) := by omega
  simp [f_drawback_Check_b2, hlt, hl, hT, encP, F_drawback_within_val, badP, wrap64]
theorem Check_b2_next (hT : T 27 = some F_drawback_within) {i : Nat} (hi : i + 1 < l.length) (hl : l.length < 1000) :
    f_drawback_Check_b2 P T D N xn x0 xr (.lst 5 b (l.map encP)) (.lst 5 b (l.map encP)) (I l.length) (I (i + 1 : Nat)) h = if badP l[i + 1] then xr (I (i + 1 : Nat)) (I 2) (h ++ [.arr 5 [encP l[i + 1]] true false])
      else if l[i + 1].id ≤ l[i].id then xr (I (i + 1 : Nat)) (I 5) (h ++ [.arr 5 [encP l[i + 1]] true false]) else xn (.lst 5 b (l.map encP)) (.lst 5 b (l.map encP)) (I l.length) (I (i + 1 + 1 : Nat)) (h ++ [.arr 5 [encP l[i + 1]] true false]) := by
  have hlt : (((i + 1 : Nat) : Int) < (l.length : Int)) := by omega
  have h0 : (0 : Int) < ((i + 1 : Nat) : Int) := by omega
  have w1 : IntKind.i64.wrap (((i + 1 : Nat) : Int) - 1) = (i : Int) := by rw [wrap64 (by omega) (by omega)]; omega
  have w2 : IntKind.i64.wrap (((i + 1 : Nat) : Int) + 1) = ((i + 1 + 1 : Nat) : Int) := by rw [wrap64 (by omega) (by omega)]; omega
  generalize hj : ((i + 1 : Nat) : Int) = j at *
  have hi1 : iaK (β := β) 5 (.lst 5 b (l.map encP)) (I j) = fun k => k (.ep (encP l[i + 1]) 0) := by funext k; rw [← hj, iaK_map, List.getElem?_eq_getElem hi]
  simp [f_drawback_Check_b2, hlt, h0, w1, w2, hT, encP, F_drawback_within_val, badP, hi1, List.getElem?_eq_getElem (show i < l.length by omega)]
theorem Check_L2_val (hT : T 27 = some F_drawback_within) (hl : l.length < 1000) {X : Option β} {R : Int → Int → Option β} (hx : ∀ h, x0 h = X) (hr : ∀ a b h, xr (I a) (I b) h = R a b) : ∀ (n i : Nat) (h : Hp), i ≤ l.length → l.length < i + n →
    f_drawback_Check_L2 P T D N x0 xr n (.lst 5 b (l.map encP)) (.lst 5 b (l.map encP)) (I l.length) (I i) h = match checkAt (if i = 0 then none else (l[i - 1]?).map (·.id)) (l.drop i) i with | none => X | some (a, b) => R a b := by
  intro n
  induction n with
  | zero => intro i h h1 h2; omega
  | succ n ih =>
    intro i h h1 h2
    show f_drawback_Check_b2 P T D N (f_drawback_Check_L2 P T D N x0 xr n) x0 xr _ _ _ _ h = _
    rcases Nat.lt_or_ge i l.length with hi | hi
    · rw [List.drop_eq_getElem_cons hi]
      unfold checkAt
      match i, hi with
      | 0, hi =>
        refine (Check_b2_first hT hi).trans ?_
        by_cases hb : badP l[0] = true
        · simp [hb, hr]
        · have h3 := fun hh => ih 1 hh (by omega) (by omega)
          simp only [hb, if_false, Bool.false_eq_true, if_true]
          refine (h3 _).trans ?_
          simp [List.getElem?_eq_getElem hi]
      | i + 1, hi =>
        rw [Check_b2_next hT hi hl]
        by_cases hb : badP l[i + 1] = true
        · simp [hb, hr]
        · have h3 := fun hh => ih (i + 1 + 1) hh (by omega) (by omega)
          have hg : l[i]? = some l[i] := List.getElem?_eq_getElem (by omega)
          by_cases hc : l[i + 1].id ≤ l[i].id
          · simp [hb, hr, hc, hg]
          · simp only [hb, hc, if_false, Bool.false_eq_true]
            refine (h3 _).trans ?_
            simp [hg, hc, List.getElem?_eq_getElem hi]
    · have : i = l.length := by omega
      subst this
      simp [f_drawback_Check_b2, hx, checkAt]
end
theorem F_drawback_Check_val (l : List Paid) (b : Bool) (h : Hp) : F_drawback_Check [.lst 5 b (l.map encP)] h = some (.tup [I (checkP l).1, I (checkP l).2], h) := by
  refine F_drawback_Check_run rfl ?_ h
  unfold checkP
  by_cases hl : 64 < l.length
  · have hl' : (64 : Int) < (l.length : Int) := by omega
    simp [f_drawback_Check, hl, hl']
  · have hl' : ¬ (64 : Int) < (l.length : Int) := by omega
    have h1 := Check_L2_val (β := AV) (P := Try.prog) (T := t_drawback_Check) (D := d_drawback_Check) (N := NN) (l := l) (b := b) (x0 := fun h => f_drawback_Check_j1 Try.prog t_drawback_Check d_drawback_Check NN (fun v g => cvt false g v) h) (xr := fun a b h => cvt false h (.tup [a, b])) rfl (by omega)
      (X := some (.tup [I (-1), I 0])) (R := fun a b => some (.tup [I a, I b])) (fun h => rfl) (fun a b h => rfl) NN 0 [] (by omega) (by have := NN_ge; omega)
    simp [f_drawback_Check, hl, hl'] at h1 ⊢
    refine h1.trans ?_
    cases checkAt none l 0 <;> rfl
end
end Go.AM
