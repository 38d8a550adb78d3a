import Derived.Test.YtkgkoladmhihgaaG4
import Derived.Below
import Derived.ChangeOld
import Derived.Carry
import Derived.OpenShut
set_option linter.unusedSectionVars false
set_option linter.unusedVariables false
set_option linter.unusedSimpArgs false
set_option linter.constructorNameAsVariable false
namespace Go.AM
open Go.Proofs
set_option linter.unusedVariables false
set_option linter.unusedSimpArgs false
set_option linter.constructorNameAsVariable false
set_option maxRecDepth 20000
attribute [local congr] arithK_cg eqK_cg notK_cg convK_cg pickK_cg buildK_cg ldK_cg nilK_cg sliceK_cg faK_cg fldK_cg iaK_cg iaA_cg lookK_cg capK_cg exK_cg lenK_cg minK_cg maxK_cg effK_cg callK_cg callVK_cg effD_cg gopD_cg grpK_cg condK_cg cond_cg
structure Frs where
  d : Docu
  dis : Int
  ans : Int
  en : Int
  cf : Bool
  rf : Bool
def stepR (mv : Int) (p : Msg) (s : Frs) (m : Msg) : Frs :=
  if m.mv ≠ mv then s
  else if m.kind = 1 then { s with d := { s.d with frm := m.frm, to := m.to, sent := m.alc }, dis := IntKind.i64.wrap (s.dis + 1) }
  else if m.kind = 2 then { s with d := { s.d with to := m.to, chg := IntKind.i64.wrap (s.d.chg + 1) }, cf := s.cf || (p.mv == mv && p.kind == m.kind && p.num == m.num) }
  else if m.kind = 3 then { s with d := { s.d with got := m.alc }, ans := IntKind.i64.wrap (s.ans + 1) }
  else if m.kind = 4 then { s with ans := IntKind.i64.wrap (s.ans + 1), rf := true }
  else { s with en := IntKind.i64.wrap (s.en + 1) }
def foldR (mv : Int) : Msg → Frs → List Msg → Frs
  | _, s, [] => s
  | p, s, m :: l => foldR mv m (stepR mv p s m) l
def begR (mv : Int) : Frs := ⟨noneD mv, 0, 0, 0, false, false⟩
def endR (mv : Int) (s : Frs) : Docu :=
  if s.dis = 0 then noneD mv
  else if (s.cf || decide (1 < s.dis) || decide (1 < s.ans)) = true then confD mv
  else if s.ans = 1 then (if 0 < s.en then { s.d with stage := 4 } else if s.rf = true then { s.d with stage := 3 } else { s.d with stage := 2 })
  else { s.d with stage := 1 }
def zeroM : Msg := ⟨0, 0, 0, 0, 0, 0, 0⟩
section
variable {β : Type}
theorem get2 {o0 o1 x : AObj} {g t : Hp} : (o0 :: o1 :: (g ++ x :: t))[g.length + 2]? = some x := by
  simp [List.getElem?_append_right]
theorem set2 {o0 o1 x z : AObj} {g t : Hp} : (o0 :: o1 :: (g ++ x :: t)).set (g.length + 2) z = o0 :: o1 :: (g ++ z :: t) := by
  simp [List.set_append_right]
variable {o0 o1 : AObj} {g t : Hp} {m : Msg}
theorem mq (j : Nat) (k : Go.AM.K β) {x : AV} (hx : (encM m)[j]? = some x) : ldK 1 false (.ptr (g.length + 2) 0 j 1) (o0 :: o1 :: (g ++ .arr 7 [encM m] true false :: t)) k = k x := by
  rw [ldK_ptr, get2]
  simp [hx]
theorem mq0 (k : Go.AM.K β) : ldK 1 false (.ptr (g.length + 2) 0 0 1) (o0 :: o1 :: (g ++ .arr 7 [encM m] true false :: t)) k = k (I m.mv) := mq 0 k rfl
theorem mq1 (k : Go.AM.K β) : ldK 1 false (.ptr (g.length + 2) 0 1 1) (o0 :: o1 :: (g ++ .arr 7 [encM m] true false :: t)) k = k (I m.kind) := mq 1 k rfl
theorem mq2 (k : Go.AM.K β) : ldK 1 false (.ptr (g.length + 2) 0 2 1) (o0 :: o1 :: (g ++ .arr 7 [encM m] true false :: t)) k = k (I m.num) := mq 2 k rfl
theorem mq4 (k : Go.AM.K β) : ldK 1 false (.ptr (g.length + 2) 0 4 1) (o0 :: o1 :: (g ++ .arr 7 [encM m] true false :: t)) k = k (I m.frm) := mq 4 k rfl
theorem mq5 (k : Go.AM.K β) : ldK 1 false (.ptr (g.length + 2) 0 5 1) (o0 :: o1 :: (g ++ .arr 7 [encM m] true false :: t)) k = k (I m.to) := mq 5 k rfl
theorem mq6 (k : Go.AM.K β) : ldK 1 false (.ptr (g.length + 2) 0 6 1) (o0 :: o1 :: (g ++ .arr 7 [encM m] true false :: t)) k = k (I m.alc) := mq 6 k rfl
theorem br7 (k : AV → Hp → Option β) : effK (boxE 7 (.agg zM) (o0 :: o1 :: g).length) (o0 :: o1 :: g) k = k (.ptr (g.length + 2) 0 0 1) (o0 :: o1 :: (g ++ [.arr 7 [zM] true false])) := by
  exact (effK_box 7 (o0 :: o1 :: g).length (.agg zM) _ k rfl rfl rfl).trans rfl
theorem sr7 (k : AV → Hp → Option β) : effK (stE 7 (.ptr (g.length + 2) 0 0 1) (.agg (encM m)) (o0 :: o1 :: (g ++ [.arr 7 [zM] true false]))) (o0 :: o1 :: (g ++ [.arr 7 [zM] true false])) k = k .u (o0 :: o1 :: (g ++ [.arr 7 [encM m] true false])) := by
  rw [effK_put (v := .u) (id := g.length + 2) (o := .arr 7 [encM m] true false) (ft := [g.length + 2]) (by rw [stE_ptr, get2]; simp [encM]), set2]
theorem le0 (h : Hp) (k : Go.AM.K β) : ldK 1 false (.ep (encM m) 0) h k = k (I m.mv) := rfl
theorem le1 (h : Hp) (k : Go.AM.K β) : ldK 1 false (.ep (encM m) 1) h k = k (I m.kind) := rfl
theorem le2 (h : Hp) (k : Go.AM.K β) : ldK 1 false (.ep (encM m) 2) h k = k (I m.num) := rfl
end
theorem rof_b4 {β : Type} {T : Tab} {D : DTab} {N : Nat} {xn : AV → AV → AV → AV → AV → AV → AV → AV → AV → AV → Hp → Option β} {x0 : AV → AV → AV → AV → AV → AV → AV → AV → Hp → Option β} {l : List Msg} {b : Bool} {i : Nat} {m p : Msg} {mv : Int} {s : Frs} {o0 : AObj} {g : Hp} (hl : l.length < 1000000) (hi : l[i + 1]? = some m) (hp : l[i]? = some p) :
    ∃ g', f_ref40_of_b4 Try.prog T D N xn x0 (.lst 7 b (l.map encM)) (I mv) (.ptr 0 0 0 1) (.ptr 1 0 0 1) (I s.dis) (I s.ans) (I s.en) (B s.cf) (B s.rf) (I ((i + 1 : Nat) : Int)) (o0 :: .arr 7 [encDo s.d] true false :: g) =
      xn (.lst 7 b (l.map encM)) (I mv) (.ptr 0 0 0 1) (.ptr 1 0 0 1) (I (stepR mv p s m).dis) (I (stepR mv p s m).ans) (I (stepR mv p s m).en) (B (stepR mv p s m).cf) (B (stepR mv p s m).rf) (I ((i + 2 : Nat) : Int)) (o0 :: .arr 7 [encDo (stepR mv p s m).d] true false :: g') := by
  have hil : i + 1 < l.length := (List.getElem?_eq_some_iff.1 hi).1
  have c1 : (((i + 1 : Nat) : Int) < (l.length : Int)) := by omega
  have hw : IntKind.i64.wrap (((i + 1 : Nat) : Int) + 1) = ((i + 2 : Nat) : Int) := by rw [wrap64 (by omega) (by omega)]; omega
  have hw1 : IntKind.i64.wrap (((i + 1 : Nat) : Int) - 1) = ((i : Nat) : Int) := by rw [wrap64 (by omega) (by omega)]; omega
  have ic : ∀ k : Go.AM.K β, iaK 7 (.lst 7 b (l.map encM)) (I ((i + 1 : Nat) : Int)) k = k (.ep (encM m) 0) := fun k => iaK_at (i + 1) rfl hi k
  have ip : ∀ k : Go.AM.K β, iaK 7 (.lst 7 b (l.map encM)) (I ((i : Nat) : Int)) k = k (.ep (encM p) 0) := fun k => iaK_at i rfl hp k
  have ld : ∀ (h : Hp) (k : Go.AM.K β), ldK 7 true (.ep (encM m) 0) h k = k (.agg (encM m)) := fun h k => rfl
  obtain ⟨⟨d0, d1, d2, d3, d4, d5, d6⟩, dis, ans, en, cf, rf⟩ := s
  simp only [encDo]
  refine ⟨g ++ [.arr 7 [encM m] true false], ?_⟩
  by_cases hm : m.mv = mv
  · have em : (m.mv == mv) = true := by simpa using hm
    have en' : ¬ (m.mv ≠ mv) := by simpa using hm
    simp -implicitDefEqProofs only [f_ref40_of_b4, lenK_lst, List.length_map, arithK_lss, c1, decide_true, condK_bool, if_true, ic, ld, br7, sr7, faK_ptr, Nat.zero_add, mq0, eqK_int, em, Bool.true_xor, Bool.false_xor, Bool.not_true, Bool.false_eq_true, if_false, mq1]
    by_cases k1 : m.kind = 1
    · have q1 : (m.kind == 1) = true := by simpa using k1
      have dj : disjAll [(3, 7), (5, 7), (5, 9)] [([], []), (idsOf (AV.ptr (g.length + 2) 0 4 1), []), ([], []), (idsOf (AV.ptr (g.length + 2) 0 5 1), []), ([], []), (idsOf (AV.ptr (g.length + 2) 0 6 1), []), ([], []), ([1], [1]), ([], []), ([1], [1]), ([], []), ([1], [1])] = true := by simp [disjAll, disj2, idsOf]
      simp -implicitDefEqProofs only [q1, if_true, arithK_add, mq4, mq5, mq6, faK_ptr, Nat.zero_add, ld7_1_0, es7_1_0, ed7_1_0, ld7_1_1, es7_1_1, ed7_1_1, ld7_1_2, es7_1_2, ed7_1_2, ld7_1_3, es7_1_3, ed7_1_3, ld7_1_4, es7_1_4, ed7_1_4, ld7_1_5, es7_1_5, ed7_1_5, ld7_1_6, es7_1_6, ed7_1_6, dj, cond_true, f_ref40_of_j7, f_ref40_of_j6, f_ref40_of_j5, hw]
      simp [stepR, hm, k1]
    have q1 : (m.kind == 1) = false := by simpa using k1
    by_cases k2 : m.kind = 2
    · have q2 : (m.kind == 2) = true := by simpa using k2
      have dj : disjAll [(4, 6)] [([], []), (idsOf (AV.ptr 1 0 6 1), []), ([], []), ([], []), (idsOf (AV.ptr (g.length + 2) 0 5 1), []), ([], []), ([1], [1]), ([], []), ([1], [1])] = true := by simp [disjAll, disj2, idsOf]
      simp -implicitDefEqProofs only [q1, q2, Bool.false_eq_true, if_false, if_true, arithK_add, arithK_sub, mq5, mq1, mq2, faK_ptr, faK_ep, Nat.zero_add, ld7_1_0, es7_1_0, ed7_1_0, ld7_1_1, es7_1_1, ed7_1_1, ld7_1_2, es7_1_2, ed7_1_2, ld7_1_3, es7_1_3, ed7_1_3, ld7_1_4, es7_1_4, ed7_1_4, ld7_1_5, es7_1_5, ed7_1_5, ld7_1_6, es7_1_6, ed7_1_6, dj, cond_true, hw1, ip, le0, le1, le2, eqK_int, Bool.false_xor, grpK_and, grpK_or, f_ref40_of_j7, f_ref40_of_j6, f_ref40_of_j5, hw]
      simp [stepR, hm, k1, k2]
    have q2 : (m.kind == 2) = false := by simpa using k2
    by_cases k3 : m.kind = 3
    · have q3 : (m.kind == 3) = true := by simpa using k3
      simp -implicitDefEqProofs only [q1, q2, q3, Bool.false_eq_true, if_false, if_true, arithK_add, mq6, faK_ptr, Nat.zero_add, ld7_1_0, es7_1_0, ed7_1_0, ld7_1_1, es7_1_1, ed7_1_1, ld7_1_2, es7_1_2, ed7_1_2, ld7_1_3, es7_1_3, ed7_1_3, ld7_1_4, es7_1_4, ed7_1_4, ld7_1_5, es7_1_5, ed7_1_5, ld7_1_6, es7_1_6, ed7_1_6, f_ref40_of_j7, f_ref40_of_j6, f_ref40_of_j5, hw]
      simp [stepR, hm, k1, k2, k3]
    have q3 : (m.kind == 3) = false := by simpa using k3
    by_cases k4 : m.kind = 4
    · have q4 : (m.kind == 4) = true := by simpa using k4
      simp -implicitDefEqProofs only [q1, q2, q3, q4, Bool.false_eq_true, if_false, if_true, arithK_add, f_ref40_of_j7, f_ref40_of_j6, f_ref40_of_j5, hw]
      simp [stepR, hm, k1, k2, k3, k4]
    have q4 : (m.kind == 4) = false := by simpa using k4
    simp -implicitDefEqProofs only [q1, q2, q3, q4, Bool.false_eq_true, if_false, if_true, arithK_add, f_ref40_of_j7, f_ref40_of_j6, f_ref40_of_j5, hw]
    simp [stepR, hm, k1, k2, k3, k4]
  · have em : (m.mv == mv) = false := by simpa using hm
    simp -implicitDefEqProofs only [f_ref40_of_b4, lenK_lst, List.length_map, arithK_lss, c1, decide_true, condK_bool, if_true, ic, ld, br7, sr7, faK_ptr, Nat.zero_add, mq0, eqK_int, em, Bool.true_xor, Bool.not_false, f_ref40_of_j6, f_ref40_of_j5, arithK_add, hw]
    simp [stepR, hm]
theorem rof_L4 {β : Type} {T : Tab} {D : DTab} {N : Nat} {x0 : AV → AV → AV → AV → AV → AV → AV → AV → Hp → Option β} {X : Option β} {l : List Msg} {b : Bool} {mv : Int} {o0 : AObj} (hl : l.length < 1000000) : ∀ (n i : Nat) (post : List Msg) (p : Msg) (s : Frs) (g : Hp), l.drop (i + 1) = post → l[i]? = some p → l.length < i + 1 + n →
    (∀ g, x0 (I mv) (.ptr 0 0 0 1) (.ptr 1 0 0 1) (I (foldR mv p s post).dis) (I (foldR mv p s post).ans) (I (foldR mv p s post).en) (B (foldR mv p s post).cf) (B (foldR mv p s post).rf) (o0 :: .arr 7 [encDo (foldR mv p s post).d] true false :: g) = X) →
    f_ref40_of_L4 Try.prog T D N x0 n (.lst 7 b (l.map encM)) (I mv) (.ptr 0 0 0 1) (.ptr 1 0 0 1) (I s.dis) (I s.ans) (I s.en) (B s.cf) (B s.rf) (I ((i + 1 : Nat) : Int)) (o0 :: .arr 7 [encDo s.d] true false :: g) = X := by
  intro n
  induction n with
  | zero => intro i post p s g _ h2 h3; have := (List.getElem?_eq_some_iff.1 h2).1; omega
  | succ n ih =>
    intro i post p s g hd hp hn hx
    have hil := (List.getElem?_eq_some_iff.1 hp).1
    show f_ref40_of_b4 Try.prog T D N (f_ref40_of_L4 Try.prog T D N x0 n) x0 _ _ _ _ _ _ _ _ _ _ _ = _
    cases post with
    | nil =>
      have : i + 1 = l.length := by
        have := congrArg List.length hd
        simp at this; omega
      have c1 : ¬ (((i + 1 : Nat) : Int) < (l.length : Int)) := by omega
      simp -implicitDefEqProofs only [f_ref40_of_b4, lenK_lst, List.length_map, arithK_lss, c1, decide_false, condK_bool, Bool.false_eq_true, if_false]
      exact hx g
    | cons m post =>
      have hm : l[i + 1]? = some m := by
        have := congrArg (fun q => q[0]?) hd
        simpa using this
      obtain ⟨g', e⟩ := rof_b4 (T := T) (D := D) (N := N) (xn := f_ref40_of_L4 Try.prog T D N x0 n) (x0 := x0) (b := b) (mv := mv) (s := s) (o0 := o0) (g := g) hl hm hp
      rw [e]
      refine ih (i + 1) post m (stepR mv p s m) g' ?_ hm (by omega) hx
      have := congrArg (List.drop 1) hd
      simpa [List.drop_drop] using this
def docR (mv : Int) (l : List Msg) : Docu := endR mv (foldR mv zeroM (begR mv) l)
theorem F_ref40_of_val (l : List Msg) (b : Bool) (mv : Int) (hmv : mv ≠ 0) (hl : l.length < 900000) (h : Hp) : F_ref40_of [.lst 7 b ((zeroM :: l).map encM), I mv] h = some (.agg (encDo (docR mv l)), h) := by
  refine F_ref40_of_run (v := .agg (encDo (docR mv l))) rfl ?_ h
  simp only [nrm, nrmC]
  have b0 : ∀ k : Go.AM.K AV, buildK zM [(some (0, 1), I mv)] k = k (.agg (encDo (noneD mv))) := fun k => rfl
  have b5 : ∀ k : Go.AM.K AV, buildK zM [(some (0, 1), I mv), (some (1, 1), I 5)] k = k (.agg (encDo (confD mv))) := fun k => rfl
  have ic : ∀ k : Go.AM.K AV, iaK 7 (.lst 7 b ((zeroM :: l).map encM)) (I 0) k = k (.ep (encM zeroM) 0) := fun k => iaK_at 0 rfl rfl k
  have ld : ∀ (h : Hp) (k : Go.AM.K AV), ldK 7 true (.ep (encM zeroM) 0) h k = k (.agg (encM zeroM)) := fun h k => rfl
  have em : ((0 : Int) == mv) = false := by simpa using Ne.symm hmv
  obtain ⟨n, hn⟩ : ∃ n, NN = n + 1 := ⟨NN - 1, by have := NN_ge; omega⟩
  have w1 : IntKind.i64.wrap (0 + 1) = 1 := by kernel_rfl
  have c1 : ((0 : Int) < (((zeroM :: l).length : Nat) : Int)) := by simp
  simp -implicitDefEqProofs only [f_ref40_of, bx7_0, b0, bx7_1, encDo, noneD, ew7_1]
  have key := rof_L4 (T := t_ref40_of) (D := d_ref40_of) (N := NN) (x0 := fun w129_1 w129_4 w129_5 w129_6 w129_7 w129_8 w129_9 w129_10 h => f_ref40_of_j1 Try.prog t_ref40_of d_ref40_of NN (fun v g => cvt false g v) w129_1 w129_4 w129_5 w129_6 w129_7 w129_8 w129_9 w129_10 h) (X := some (AV.agg (encDo (docR mv l)))) (l := zeroM :: l) (b := b) (mv := mv) (o0 := .arr 7 [zM] true false) (by simp; omega) n 0 l zeroM (begR mv) [.arr 7 [encM zeroM] true false] rfl rfl (by have := NN_ge; simp; omega) ?_
  · rw [hn]
    rw [hn] at key
    refine Eq.trans ?_ key
    show f_ref40_of_b4 Try.prog t_ref40_of d_ref40_of (n + 1) _ _ _ _ _ _ _ _ _ _ _ _ _ = _
    have sz : ∀ (o0 o1 : AObj) (k : AV → Hp → Option AV), effK (stE 7 (.ptr 2 0 0 1) (.agg (encM zeroM)) [o0, o1, .arr 7 [zM] true false]) [o0, o1, .arr 7 [zM] true false] k = k .u [o0, o1, .arr 7 [encM zeroM] true false] := fun o0 o1 k => ew7_2 k
    have l0 : ∀ (o0 o1 : AObj) (k : Go.AM.K AV), ldK 1 false (.ptr 2 0 0 1) [o0, o1, .arr 7 [encM zeroM] true false] k = k (I 0) := fun o0 o1 k => rfl
    simp -implicitDefEqProofs only [f_ref40_of_b4, lenK_lst, List.length_map, arithK_lss, c1, decide_true, condK_bool, if_true, ic, ld, bx7_2, sz, faK_ptr, Nat.zero_add, l0, eqK_int, em, Bool.true_xor, Bool.not_false, f_ref40_of_j6, f_ref40_of_j5, arithK_add, w1]
    rfl
  · intro g
    unfold docR
    generalize foldR mv zeroM (begR mv) l = s
    obtain ⟨⟨d0, d1, d2, d3, d4, d5, d6⟩, dis, ans, en, cf, rf⟩ := s
    simp -implicitDefEqProofs only [f_ref40_of_j1, eqK_int, Bool.false_xor, condK_bool, b0, b5, encDo, noneD, confD, ew7_0, lw7_0, arithK_gtr, grpK_or, faK_ptr, Nat.zero_add, es7_1_1, endR]
    by_cases h1 : dis = 0
    · simp [h1]
    · have e1 : (dis == 0) = false := by simpa using h1
      simp only [e1, h1, if_false, Bool.false_eq_true]
      by_cases h2 : (cf || decide (1 < dis) || decide (1 < ans)) = true
      · simp only [h2, if_true]; rfl
      · rw [if_neg h2, if_neg h2]
        by_cases h3 : ans = 1
        · subst h3
          cases rf <;> by_cases h4 : 0 < en <;> simp -implicitDefEqProofs only [beq_self_eq_true, if_true, f_ref40_of_j3, arithK_gtr, h4, decide_true, decide_false, condK_bool, Bool.false_eq_true, if_false, faK_ptr, Nat.zero_add, es7_1_1, f_ref40_of_j2, lw7_1, ew7_0, lw7_0] <;> rfl
        · have e3 : (ans == 1) = false := by simpa using h3
          simp -implicitDefEqProofs only [e3, h3, Bool.false_eq_true, if_false, f_ref40_of_j2, lw7_1, ew7_0, lw7_0]
          rfl
end Go.AM


namespace Go.AM
open Go.Proofs
set_option linter.unusedVariables false
set_option linter.unusedSimpArgs false
set_option linter.constructorNameAsVariable false
set_option maxRecDepth 20000
structure InR (mv : Int) (l : List Msg) (s : Frs) : Prop where
  mve : s.d.mv = mv
  stage : s.d.stage = 0
  frm : s.d.frm = (((ofk mv 1 l).getLast?).map (·.frm)).getD 0
  sent : s.d.sent = (((ofk mv 1 l).getLast?).map (·.alc)).getD 0
  to : s.d.to = match (ofk mv 2 l).getLast? with | some c => c.to | none => (((ofk mv 1 l).getLast?).map (·.to)).getD 0
  got : s.d.got = (((ofk mv 3 l).getLast?).map (·.alc)).getD 0
  chg : s.d.chg = (ofk mv 2 l).length
  dis : s.dis = (ofk mv 1 l).length
  ans : s.ans = ((ofk mv 3 l).length + (ofk mv 4 l).length : Nat)
  en : s.en = (ofk mv 5 l).length
  rf : s.rf = !(ofk mv 4 l).isEmpty
  cf : s.cf = decide (¬ ((ofk mv 2 l).map (·.num)).Nodup)
theorem srt_last {l : List Msg} {m p x : Msg} (hs : Srt (l ++ [m])) (hp : (zeroM :: l).getLast? = some p) (hx : x ∈ l) : p ∈ l ∧ (x = p ∨ ltM x p = true) := by
  rcases List.eq_nil_or_concat l with rfl | ⟨l', q, rfl⟩
  · simp at hx
  · rw [List.concat_eq_append] at *
    have : p = q := by rw [← List.cons_append, List.getLast?_append] at hp; simpa using hp.symm
    subst this
    refine ⟨by simp, ?_⟩
    rcases List.mem_append.1 hx with hx | hx
    · right
      rw [Srt, List.append_assoc, List.pairwise_append] at hs
      exact hs.2.2 x hx p (by simp)
    · simp at hx; exact .inl hx
theorem InR.step {mv : Int} {l : List Msg} {s : Frs} {m p : Msg} (H : InR mv l s) (hs : Srt (l ++ [m])) (hm : checkM m = 0) (hp : (zeroM :: l).getLast? = some p) (h0 : mv ≠ 0) (hl : l.length < 1000000) : InR mv (l ++ [m]) (stepR mv p s m) := by
  obtain ⟨k0, k5, -⟩ := checkM_kind hm
  have hlt : ∀ x ∈ l, ltM x m = true := fun x hx => by
    rw [Srt, List.pairwise_append] at hs
    exact hs.2.2 x hx m (by simp)
  by_cases hmv : m.mv = mv
  · have noK : ∀ k, m.kind < k → ofk mv k l = [] := fun k hk => by
      rw [List.eq_nil_iff_forall_not_mem]
      intro x hx
      obtain ⟨h1, h2, h3⟩ := mem_ofk.1 hx
      have := ltM_lex (hlt x h1)
      have h4 := this.2 (by omega)
      omega
    have wr : ∀ k, IntKind.i64.wrap (((ofk mv k l).length : Int) + 1) = ((ofk mv k l).length : Int) + 1 := fun k => by
      have := ofk_len mv k l
      rw [wrap64 (by omega) (by omega)]
    have wa : IntKind.i64.wrap (((((ofk mv 3 l).length + (ofk mv 4 l).length : Nat)) : Int) + 1) = ((((ofk mv 3 l).length + (ofk mv 4 l).length : Nat)) : Int) + 1 := by
      have h3 := ofk_len mv 3 l
      have h4 := ofk_len mv 4 l
      rw [wrap64 (by omega) (by omega)]
    have hk : m.kind = 1 ∨ m.kind = 2 ∨ m.kind = 3 ∨ m.kind = 4 ∨ m.kind = 5 := by omega
    rcases hk with k | k | k | k | k
    · have e2 := noK 2 (by omega)
      have st : stepR mv p s m = { s with d := { s.d with frm := m.frm, to := m.to, sent := m.alc }, dis := IntKind.i64.wrap (s.dis + 1) } := by simp [stepR, hmv, k]
      rw [st]
      exact ⟨H.mve, H.stage, by simp [ofk_snoc, hmv, k], by simp [ofk_snoc, hmv, k], by simp [ofk_snoc, hmv, k, e2], by simp [ofk_snoc, hmv, k, H.got], by simp [ofk_snoc, hmv, k, H.chg], by simp [ofk_snoc, hmv, k, H.dis, wr], by simp [ofk_snoc, hmv, k, H.ans], by simp [ofk_snoc, hmv, k, H.en], by simp [ofk_snoc, hmv, k, H.rf], by simp [ofk_snoc, hmv, k, H.cf]⟩
    · have st : stepR mv p s m = { s with d := { s.d with to := m.to, chg := IntKind.i64.wrap (s.d.chg + 1) }, cf := s.cf || (p.mv == mv && p.kind == m.kind && p.num == m.num) } := by simp [stepR, hmv, k]
      rw [st]
      refine ⟨H.mve, H.stage, by simp [ofk_snoc, hmv, k, H.frm], by simp [ofk_snoc, hmv, k, H.sent], by simp [ofk_snoc, hmv, k], by simp [ofk_snoc, hmv, k, H.got], by simp [ofk_snoc, hmv, k, H.chg, wr], by simp [ofk_snoc, hmv, k, H.dis], by simp [ofk_snoc, hmv, k, H.ans], by simp [ofk_snoc, hmv, k, H.en], by simp [ofk_snoc, hmv, k, H.rf], ?_⟩
      rw [ofk_snoc, if_pos ⟨hmv, k⟩, List.map_append, H.cf]
      rw [Bool.eq_iff_iff]
      simp only [Bool.or_eq_true, Bool.and_eq_true, beq_iff_eq, decide_eq_true_eq]
      rw [List.nodup_append]
      have key : (p.mv = mv ∧ p.kind = m.kind) ∧ p.num = m.num ↔ ∃ x ∈ ofk mv 2 l, x.num = m.num := by
        constructor
        · rintro ⟨⟨h1, h2⟩, h3⟩
          have hpl : p ∈ l := by
            rcases List.eq_nil_or_concat l with rfl | ⟨l', q, rfl⟩
            · simp at hp; subst hp; exact absurd h1.symm h0
            · rw [List.concat_eq_append, ← List.cons_append, List.getLast?_append] at hp
              have : q = p := by simpa using hp
              simp [this]
          exact ⟨p, mem_ofk.2 ⟨hpl, h1, by omega⟩, h3⟩
        · rintro ⟨x, hx, h3⟩
          obtain ⟨h1, h2, h4⟩ := mem_ofk.1 hx
          obtain ⟨hpl, hxp⟩ := srt_last hs hp h1
          rcases hxp with rfl | hxp
          · exact ⟨⟨h2, by omega⟩, h3⟩
          · have a1 := ltM_lex hxp
            have a2 := ltM_lex (hlt p hpl)
            omega
      constructor
      · rintro (h | h)
        · exact fun q => h q.1
        · obtain ⟨x, hx, hxn⟩ := key.1 h
          intro q
          exact q.2.2 x.num (List.mem_map.2 ⟨x, hx, rfl⟩) m.num (by simp) hxn
      · intro h
        by_cases hn : ((ofk mv 2 l).map (·.num)).Nodup
        · right
          refine key.2 ?_
          rcases Classical.em (∃ x ∈ ofk mv 2 l, x.num = m.num) with h2 | h2
          · exact h2
          · refine absurd ⟨hn, by simp, ?_⟩ h
            intro a ha b hb hab
            obtain ⟨x, hx, rfl⟩ := List.mem_map.1 ha
            simp at hb
            exact h2 ⟨x, hx, by rw [hab, hb]⟩
        · exact .inl hn
    · have st : stepR mv p s m = { s with d := { s.d with got := m.alc }, ans := IntKind.i64.wrap (s.ans + 1) } := by simp [stepR, hmv, k]
      rw [st]
      exact ⟨H.mve, H.stage, by simp [ofk_snoc, hmv, k, H.frm], by simp [ofk_snoc, hmv, k, H.sent], by simp [ofk_snoc, hmv, k, H.to], by simp [ofk_snoc, hmv, k], by simp [ofk_snoc, hmv, k, H.chg], by simp [ofk_snoc, hmv, k, H.dis], by rw [H.ans, wa, ofk_snoc, ofk_snoc, if_pos ⟨hmv, k⟩, if_neg (by omega), List.length_append]; simp; omega, by simp [ofk_snoc, hmv, k, H.en], by simp [ofk_snoc, hmv, k, H.rf], by simp [ofk_snoc, hmv, k, H.cf]⟩
    · have st : stepR mv p s m = { s with ans := IntKind.i64.wrap (s.ans + 1), rf := true } := by simp [stepR, hmv, k]
      rw [st]
      exact ⟨H.mve, H.stage, by simp [ofk_snoc, hmv, k, H.frm], by simp [ofk_snoc, hmv, k, H.sent], by simp [ofk_snoc, hmv, k, H.to], by simp [ofk_snoc, hmv, k, H.got], by simp [ofk_snoc, hmv, k, H.chg], by simp [ofk_snoc, hmv, k, H.dis], by rw [H.ans, wa, ofk_snoc, ofk_snoc, if_neg (by omega), if_pos ⟨hmv, k⟩, List.length_append]; simp; omega, by simp [ofk_snoc, hmv, k, H.en], by simp [ofk_snoc, hmv, k], by simp [ofk_snoc, hmv, k, H.cf]⟩
    · have st : stepR mv p s m = { s with en := IntKind.i64.wrap (s.en + 1) } := by simp [stepR, hmv, k]
      rw [st]
      exact ⟨H.mve, H.stage, by simp [ofk_snoc, hmv, k, H.frm], by simp [ofk_snoc, hmv, k, H.sent], by simp [ofk_snoc, hmv, k, H.to], by simp [ofk_snoc, hmv, k, H.got], by simp [ofk_snoc, hmv, k, H.chg], by simp [ofk_snoc, hmv, k, H.dis], by simp [ofk_snoc, hmv, k, H.ans], by simp [ofk_snoc, hmv, k, H.en, wr], by simp [ofk_snoc, hmv, k, H.rf], by simp [ofk_snoc, hmv, k, H.cf]⟩
  · have st : stepR mv p s m = s := by simp [stepR, hmv]
    have ek : ∀ k, ofk mv k (l ++ [m]) = ofk mv k l := fun k => by rw [ofk_snoc, if_neg (by simp [hmv])]
    rw [st]
    exact ⟨H.mve, H.stage, by rw [ek]; exact H.frm, by rw [ek]; exact H.sent, by rw [ek, ek]; exact H.to, by rw [ek]; exact H.got, by rw [ek]; exact H.chg, by rw [ek]; exact H.dis, by rw [ek, ek]; exact H.ans, by rw [ek]; exact H.en, by rw [ek]; exact H.rf, by rw [ek]; exact H.cf⟩
theorem InR.beg (mv : Int) : InR mv [] (begR mv) := ⟨rfl, rfl, rfl, rfl, rfl, rfl, rfl, rfl, rfl, rfl, rfl, rfl⟩
theorem InR.all {mv : Int} (h0 : mv ≠ 0) : ∀ (post pre : List Msg) (p : Msg) (s : Frs), Srt (pre ++ post) → (∀ m ∈ post, checkM m = 0) → (pre ++ post).length < 1000000 → (zeroM :: pre).getLast? = some p → InR mv pre s → InR mv (pre ++ post) (foldR mv p s post)
  | [], pre, p, s, _, _, _, _, H => by simpa [foldR] using H
  | m :: post, pre, p, s, hs, hv, hl, hp, H => by
    have e : pre ++ m :: post = (pre ++ [m]) ++ post := by simp
    rw [e] at hs hl ⊢
    refine InR.all h0 post (pre ++ [m]) m (stepR mv p s m) hs (fun x hx => hv x (by simp [hx])) hl (by rw [← List.cons_append, List.getLast?_append]; simp) (H.step ?_ (hv m (by simp)) hp h0 (by simp at hl; omega))
    exact hs.sublist (List.sublist_append_left _ _)
theorem docR_eq {mv : Int} {l : List Msg} (h0 : mv ≠ 0) (hs : Srt l) (hv : ∀ m ∈ l, checkM m = 0) (hl : l.length < 1000000) : docR mv l = docS mv l := by
  have H := InR.all h0 l [] zeroM (begR mv) hs hv hl rfl (InR.beg mv)
  rw [List.nil_append] at H
  unfold docR
  generalize foldR mv zeroM (begR mv) l = s at *
  unfold endR docS
  cases hd : (ofk mv 1 l).getLast? with
  | none =>
    have h0 : ofk mv 1 l = [] := List.getLast?_eq_none_iff.1 hd
    rw [if_pos (by rw [H.dis, h0]; rfl)]
  | some d =>
    have h1 : ofk mv 1 l ≠ [] := fun e => by rw [e] at hd; simp at hd
    have hpos : 0 < (ofk mv 1 l).length := List.length_pos_iff.2 h1
    rw [if_neg (by rw [H.dis]; omega)]
    simp only []
    have hc : (s.cf || decide (1 < s.dis) || decide (1 < s.ans)) = true ↔ (1 < (ofk mv 1 l).length ∨ 1 < (ofk mv 3 l).length + (ofk mv 4 l).length ∨ ¬ ((ofk mv 2 l).map (·.num)).Nodup) := by
      rw [H.cf, H.dis, H.ans]
      simp only [Bool.or_eq_true, decide_eq_true_eq]
      constructor
      · rintro ((h | h) | h)
        · exact .inr (.inr h)
        · exact .inl (by omega)
        · exact .inr (.inl (by omega))
      · rintro (h | h | h)
        · exact .inl (.inr (by omega))
        · exact .inr (by omega)
        · exact .inl (.inl h)
    by_cases hcc : (s.cf || decide (1 < s.dis) || decide (1 < s.ans)) = true
    · rw [if_pos hcc, if_pos (hc.1 hcc)]
    · rw [if_neg hcc, if_neg fun h => hcc (hc.2 h)]
      have hn := fun h => hcc (hc.2 h)
      have ha : (ofk mv 3 l).length + (ofk mv 4 l).length ≤ 1 := by
        rcases Nat.lt_or_ge 1 ((ofk mv 3 l).length + (ofk mv 4 l).length) with h | h
        · exact absurd (.inr (.inl h)) hn
        · exact h
      obtain ⟨⟨d0, d1, d2, d3, d4, d5, d6⟩, dis, ans, en, cf, rf⟩ := s
      obtain ⟨q1, q2, q3, q4, q5, q6, q7, q8, q9, q10, q11, q12⟩ := H
      simp only at q1 q2 q3 q4 q5 q6 q7 q8 q9 q10 q11 q12
      rw [hd] at q3 q4 q5
      subst q1 q2 q3 q4 q6 q7 q9 q10 q11
      simp only [Option.map_some, Option.getD_some] at q5 ⊢
      subst q5
      clear hcc hc hn q12 q8
      by_cases r3 : ofk d0 3 l = []
      · by_cases r4 : ofk d0 4 l = []
        · simp [r3, r4]
          cases (ofk d0 2 l).getLast? <;> rfl
        · have hl4 : 0 < (ofk d0 4 l).length := List.length_pos_iff.2 r4
          have e1 : (ofk d0 4 l).length = 1 := by omega
          by_cases r5 : ofk d0 5 l = []
          · simp [r3, r4, r5, e1]
            cases (ofk d0 2 l).getLast? <;> rfl
          · have hl5 : 0 < (ofk d0 5 l).length := List.length_pos_iff.2 r5
            simp [r3, r4, r5, e1, hl5]
            cases (ofk d0 2 l).getLast? <;> rfl
      · have hl3 : 0 < (ofk d0 3 l).length := List.length_pos_iff.2 r3
        have r4 : ofk d0 4 l = [] := List.eq_nil_of_length_eq_zero (by omega)
        have e1 : (ofk d0 3 l).length = 1 := by omega
        by_cases r5 : ofk d0 5 l = []
        · simp [r3, r4, r5, e1]
          cases (ofk d0 2 l).getLast? <;> rfl
        · have hl5 : 0 < (ofk d0 5 l).length := List.length_pos_iff.2 r5
          simp [r3, r4, r5, e1, hl5]
          cases (ofk d0 2 l).getLast? <;> rfl
end Go.AM


namespace Go.AM
open Go.Proofs
set_option linter.unusedVariables false
set_option linter.unusedSimpArgs false
set_option linter.constructorNameAsVariable false
set_option maxRecDepth 20000
attribute [local congr] arithK_cg eqK_cg notK_cg convK_cg pickK_cg buildK_cg ldK_cg nilK_cg sliceK_cg faK_cg fldK_cg iaK_cg iaA_cg lookK_cg capK_cg exK_cg lenK_cg minK_cg maxK_cg effK_cg callK_cg callVK_cg effD_cg gopD_cg grpK_cg condK_cg cond_cg
theorem ref40_SameDocuments_L2 {T : Tab} {D : DTab} {N : Nat} {x0 : Hp → Option AV} {xr : AV → Hp → Option AV} {a b : List Docu} {p q : Bool} {h : Hp} (hab : a.length = b.length) (hl : a.length < 1000000) (hx : x0 h = xr (B true) h) (heq : ∀ (x y : Docu) (k : Go.AM.K AV), eqK Try.prog true 35 (.agg (encDo x)) (.agg (encDo y)) h k = k (B (!(x == y)))) : ∀ (n i : Nat), i ≤ a.length → a.length < i + n →
    f_ref40_SameDocuments_L2 Try.prog T D N x0 xr n (.lst 7 p (a.map encDo)) (.lst 7 q (b.map encDo)) (I i) h = xr (B (decide (a.drop i = b.drop i))) h := by
  intro n
  induction n with
  | zero => intro i h1 h2; omega
  | succ n ih =>
    intro i h1 h2
    show f_ref40_SameDocuments_b2 Try.prog T D N (f_ref40_SameDocuments_L2 Try.prog T D N x0 xr n) x0 xr _ _ _ h = _
    rcases Nat.lt_or_ge i a.length with hi | hi
    · have c1 : ((i : Int) < (a.length : Int)) := by omega
      have hw : IntKind.i64.wrap ((i : Int) + 1) = ((i + 1 : Nat) : Int) := by rw [wrap64 (by omega) (by omega)]; omega
      have ia : ∀ k : Go.AM.K AV, iaK 7 (.lst 7 p (a.map encDo)) (I i) k = k (.ep (encDo a[i]) 0) := fun k => iaK_at i rfl (List.getElem?_eq_getElem hi) k
      have ib : ∀ k : Go.AM.K AV, iaK 7 (.lst 7 q (b.map encDo)) (I i) k = k (.ep (encDo (b[i]'(by omega))) 0) := fun k => iaK_at i rfl (List.getElem?_eq_getElem (by omega)) k
      have ld : ∀ (x : Docu) (k : Go.AM.K AV), ldK 7 true (.ep (encDo x) 0) h k = k (.agg (encDo x)) := fun x k => rfl
      rw [List.drop_eq_getElem_cons hi, List.drop_eq_getElem_cons (show i < b.length by omega)]
      simp -implicitDefEqProofs only [f_ref40_SameDocuments_b2, lenK_lst, List.length_map, arithK_lss, c1, decide_true, condK_bool, if_true, ia, ib, ld, heq, arithK_add, hw, ih (i + 1) (by omega) (by omega), List.cons.injEq, Bool.decide_and]
      by_cases e : a[i] = b[i]
      · simp [e]
      · simp [e]
    · have : i = a.length := by omega
      subst this
      have c1 : ¬ ((a.length : Int) < (a.length : Int)) := by omega
      simp -implicitDefEqProofs only [f_ref40_SameDocuments_b2, lenK_lst, List.length_map, arithK_lss, c1, decide_false, condK_bool, Bool.false_eq_true, if_false, hx]
      rw [List.drop_eq_nil_of_le (Nat.le_refl _), List.drop_eq_nil_of_le (by omega)]
      rfl
theorem F_ref40_SameDocuments_val (a b : List Docu) (p q : Bool) (hl : a.length < 1000000) (heq : ∀ (x y : Docu) (h : Hp) (k : Go.AM.K AV), eqK Try.prog true 35 (.agg (encDo x)) (.agg (encDo y)) h k = k (B (!(x == y)))) (h : Hp) : F_ref40_SameDocuments [.lst 7 p (a.map encDo), .lst 7 q (b.map encDo)] h = some (B (decide (a = b)), h) := by
  refine F_ref40_SameDocuments_run rfl ?_ h
  simp only [nrm, nrmC]
  by_cases hab : a.length = b.length
  · have e : ((a.length : Int) == (b.length : Int)) = true := by simp [hab]
    have := ref40_SameDocuments_L2 (T := t_ref40_SameDocuments) (D := d_ref40_SameDocuments) (N := NN) (x0 := fun h => f_ref40_SameDocuments_j1 Try.prog t_ref40_SameDocuments d_ref40_SameDocuments NN (fun v g => cvt false g v) h) (xr := fun w13_4 h => cvt false h w13_4) (a := a) (b := b) (p := p) (q := q) (h := []) hab hl rfl (fun x y k => heq x y [] k) NN 0 (by omega) (by have := NN_ge; omega)
    simp only [List.drop_zero] at this
    simp -implicitDefEqProofs only [f_ref40_SameDocuments, lenK_lst, List.length_map, eqK_int, e, Bool.true_xor, Bool.not_true, condK_bool, Bool.false_eq_true, if_false]
    exact this
  · have e : ((a.length : Int) == (b.length : Int)) = false := by simp; omega
    have hne : a ≠ b := fun h => hab (by rw [h])
    simp [f_ref40_SameDocuments, e, hne]
theorem same_D (a b : List Docu) (p q : Bool) (hl : a.length < 1000000) (h : Hp) : F_ref40_SameDocuments [.lst 7 p (a.map encDo), .lst 7 q (b.map encDo)] h = some (B (decide (a = b)), h) := F_ref40_SameDocuments_val a b p q hl (fun x y h k => by rw [eqs_Do, Bool.true_xor]) h
def zeroD : Docu := ⟨0, 0, 0, 0, 0, 0, 0⟩
def badMv (mv : Int) : Bool := decide (mv < 1) || decide (1073741824 < mv)
def ofS (l : List Msg) (mv : Int) : Docu × Int := if errM l ≠ 0 then (zeroD, errM l) else if badMv mv = true then (zeroD, 2) else (docS mv (normL l), 0)
def tupD (r : Docu × Int) : AV := .tup [.agg (encDo r.1), I r.2]
theorem normL_ok {l : List Msg} (h : errM l = 0) : (normL l).length ≤ 64 ∧ ∀ m ∈ normL l, checkM m = 0 := by
  obtain ⟨h1, h2⟩ := errM_zero.1 h
  exact ⟨Nat.le_trans (normL_length l) h1, fun m hm => h2 m (mem_normL.1 hm)⟩
theorem ofS_ok {l : List Msg} {mv : Int} (he : errM l = 0) : ofS l mv = if badMv mv = true then (zeroD, 2) else (docS mv (normL l), 0) := if_neg (by simp [he])
theorem F_document_Of_val (l : List Msg) (b : Bool) (mv : Int) (hl : l.length < 1000000) (h : Hp) : F_document_Of [SLm b l, I mv] h = some (tupD (ofS l mv), h) := by
  refine F_document_Of_run (a0 := SLm b l) (a1 := I mv) rfl ?_ h
  have fN := F_document_Normal_val l b hl
  have bz : ∀ k : Go.AM.K AV, buildK zM [] k = k (.agg (encDo zeroD)) := fun k => rfl
  have x0 : ∀ k : Go.AM.K AV, exK (normR b l) 0 k = k (if errM l = 0 then SLm b (normL l) else .lst 7 true []) := fun k => rfl
  have x1 : ∀ k : Go.AM.K AV, exK (normR b l) 1 k = k (I (errM l)) := fun k => rfl
  simp only [nrm, nrmC]
  simp -implicitDefEqProofs only [f_document_Of, bx7_0, t_document_Of_12, callK_F, fN, x0, x1, eqK_int, Bool.true_xor, condK_bool, bz, encDo, zeroD, ew7_0, lw7_0]
  by_cases he : errM l = 0
  · have fo := fun h => F_document_of_val (normL l) (b && (normL l).isEmpty) mv (by have := normL_length l; omega) h
    rw [docF_eq (normL_srt l) (normL_ok he).2 (by have := normL_length l; omega)] at fo
    simp -implicitDefEqProofs only [he, beq_self_eq_true, Bool.not_true, Bool.false_eq_true, if_false, if_true, arithK_lss, arithK_gtr, grpK_or, condK_bool, SLm, t_document_Of_46, callK_F, fo, bz, encDo, zeroD, ew7_0, lw7_0]
    rw [ofS_ok he, show (decide (mv < 1) || decide (1073741824 < mv)) = badMv mv from rfl]
    generalize docS mv (normL l) = d
    cases badMv mv <;> rfl
  · have e : (errM l == 0) = false := by simpa using he
    simp only [e, Bool.not_false, if_true]
    rw [show ofS l mv = (zeroD, errM l) from if_pos he]
    rfl
theorem F_ref40_guard_val (l : List Msg) (b : Bool) (hl : l.length < 900000) (h : Hp) : F_ref40_guard [.lst 7 b (l.map encM)] h = some (.lst 7 false ((zeroM :: l).map encM), h) := by
  refine (F_ref40_guard_run (v := .lst 7 false ((zeroM :: l).map encM)) rfl ?_ h).trans rfl
  simp only [nrm, nrmC]
  have bz : ∀ k : Go.AM.K AV, buildK zM [] k = k (.agg (encM zeroM)) := fun k => rfl
  have bs : ∀ k : AV → Hp → Option AV, effK (bsE 7 zM 1 [(0, .agg (encM zeroM))] ([] : Hp).length) [] k = k (.sl 7 0 0 1 1 true) [.arr 7 [encM zeroM] true false] := fun k => rfl
  have h2 : ((l.map encM).all fun e => e.length == 7) = true := by simp [encM]
  have hle : (1 + l.length) * 56 ≤ 140737488355328 := by omega
  have okl : okE false ((zeroM :: l).map encM) = true := okE_map (by intro x; simp [encM])
  by_cases h0 : l = []
  · subst h0
    simp -implicitDefEqProofs only [f_ref40_guard, bz, bs]
    rfl
  · have hl0 : l.length ≠ 0 := fun q => h0 (List.eq_nil_of_length_eq_zero q)
    have ap : ∀ k : AV → Hp → Option AV, effK (appE 7 56 (.sl 7 0 0 1 1 true) (.lst 7 b (l.map encM)) [.arr 7 [encM zeroM] true false] ([.arr 7 [encM zeroM] true false] : Hp).length) [.arr 7 [encM zeroM] true false] k = k (.sl 7 1 0 (1 + l.length) (1 + l.length) false) [.arr 7 [encM zeroM] true false, .arr 7 ((zeroM :: l).map encM) true false] := fun k => by
      simp [appE, readSl, h2, hle, hl0, effK, Go.AM.ap]
    simp -implicitDefEqProofs only [f_ref40_guard, bz, bs, ap]
    exact cvt_whole (es := (zeroM :: l).map encM) rfl (by simp; omega) (by simp; omega) okl
theorem F_ref40_Of_val (l : List Msg) (b : Bool) (mv : Int) (hl : l.length < 1000) (h : Hp) : F_ref40_Of [.lst 7 b (l.map encM), I mv] h = some (tupD (ofS l mv), h) := by
  refine F_ref40_Of_run (a0 := .lst 7 b (l.map encM)) (a1 := I mv) rfl ?_ h
  have fS := F_ref40_Start_val l b (by omega)
  have fN := F_ref40_normal_val l b hl
  have hn := normL_length l
  have fG := fun h => F_ref40_guard_val (normL l) false (by omega) h
  have bz : ∀ k : Go.AM.K AV, buildK zM [] k = k (.agg (encDo zeroD)) := fun k => rfl
  simp only [nrm, nrmC]
  simp -implicitDefEqProofs only [f_ref40_Of, bx7_0, t_ref40_Of_42, t_ref40_Of_43, t_ref40_Of_48, t_ref40_Of_47, callK_F, fS, fN, fG, eqK_int, Bool.true_xor, condK_bool, bz, encDo, zeroD, ew7_0, lw7_0, arithK_lss, arithK_gtr, grpK_or]
  by_cases he : errM l = 0
  · have e : (errM l == 0) = true := by simpa using he
    rw [ofS_ok he, show (decide (mv < 1) || decide (1073741824 < mv)) = badMv mv from rfl]
    simp only [e, Bool.not_true, Bool.false_eq_true, if_false]
    cases hb : badMv mv with
    | true => rfl
    | false =>
      have hmv : mv ≠ 0 := by simp [badMv] at hb; omega
      have fo := fun h => F_ref40_of_val (normL l) false mv hmv (by omega) h
      rw [docR_eq hmv (normL_srt l) (normL_ok he).2 (by omega)] at fo
      simp only [fo]
      generalize docS mv (normL l) = d
      simp -implicitDefEqProofs only [encDo, ew7_0, lw7_0]
      rfl
  · have e : (errM l == 0) = false := by simpa using he
    simp only [e, Bool.not_false, if_true]
    rw [show ofS l mv = (zeroD, errM l) from if_pos he]
    rfl
def allG (n : List Msg) : Int → List Msg → List Docu
  | _, [] => []
  | p, m :: l => if m.mv ≠ p then docS m.mv n :: allG n m.mv l else allG n p l
theorem allG_len (n : List Msg) : ∀ (l : List Msg) (p : Int), (allG n p l).length ≤ l.length
  | [], p => by simp [allG]
  | m :: l, p => by
    have h1 := allG_len n l m.mv
    have h2 := allG_len n l p
    simp only [allG]
    split <;> simp <;> omega
def allS (l : List Msg) : List Docu := if errM l = 0 then allG (normL l) 0 (normL l) else []
theorem allS_len (l : List Msg) : (allS l).length ≤ l.length := by
  have h1 := allG_len (normL l) (normL l) 0
  have h2 := normL_length l
  unfold allS
  split
  · omega
  · simp
section
variable {β : Type}
theorem bxh {h : Hp} (k : AV → Hp → Option β) : effK (boxE 7 (.agg zM) h.length) h k = k (.ptr h.length 0 0 1) (h ++ [.arr 7 [zM] true false]) := effK_box 7 h.length (.agg zM) h k rfl rfl rfl
theorem sth {h : Hp} {m : Msg} (k : AV → Hp → Option β) : effK (stE 7 (.ptr h.length 0 0 1) (.agg (encM m)) (h ++ [.arr 7 [zM] true false])) (h ++ [.arr 7 [zM] true false]) k = k .u (h ++ [.arr 7 [encM m] true false]) := by
  rw [effK_put (v := .u) (id := h.length) (o := .arr 7 [encM m] true false) (ft := [h.length]) (by simp [encM]), set_new0]; rfl
theorem std {h : Hp} {m : Docu} (k : AV → Hp → Option β) : effK (stE 7 (.ptr h.length 0 0 1) (.agg (encDo m)) (h ++ [.arr 7 [zM] true false])) (h ++ [.arr 7 [zM] true false]) k = k .u (h ++ [.arr 7 [encDo m] true false]) := by
  rw [effK_put (v := .u) (id := h.length) (o := .arr 7 [encDo m] true false) (ft := [h.length]) (by simp [encDo]), set_new0]; rfl
theorem lh0 {h : Hp} {m : Msg} (k : Go.AM.K β) : ldK 1 false (.ptr h.length 0 0 1) (h ++ [.arr 7 [encM m] true false]) k = k (I m.mv) := by simp [encM]
theorem ld1 {h : Hp} {m : Docu} (k : Go.AM.K β) : ldK 1 false (.ptr h.length 0 1 1) (h ++ [.arr 7 [encDo m] true false]) k = k (I m.stage) := by simp [encDo]
theorem ld3 {h : Hp} {m : Docu} (k : Go.AM.K β) : ldK 1 false (.ptr h.length 0 3 1) (h ++ [.arr 7 [encDo m] true false]) k = k (I m.to) := by simp [encDo]
theorem ld4 {h : Hp} {m : Docu} (k : Go.AM.K β) : ldK 1 false (.ptr h.length 0 4 1) (h ++ [.arr 7 [encDo m] true false]) k = k (I m.sent) := by simp [encDo]
theorem bsD {h : Hp} {d : Docu} (k : AV → Hp → Option β) : effK (bsE 7 zM 1 [(0, .agg (encDo d))] h.length) h k = k (.sl 7 h.length 0 1 1 true) (h ++ [.arr 7 [encDo d] true false]) := by simp [bsE, fillS, encDo, effK, ap]
theorem gro_doc {h : Hp} {v : AV} {o : List Docu} {d : Docu} (O : Gro 7 encDo h v o) (hl : o.length < 1000000) : ∃ v' h', (∀ {β : Type} (k : AV → Hp → Option β), effK (appE 7 56 v (.sl 7 h.length 0 1 1 true) (h ++ [.arr 7 [encDo d] true false]) (h ++ [AObj.arr 7 [encDo d] true false]).length) (h ++ [.arr 7 [encDo d] true false]) k = k v' h') ∧ Gro 7 encDo h' v' (o ++ [d]) := by
  obtain ⟨v', e, a1, a2, -⟩ := Gro.snocE (h := h ++ [AObj.arr 7 [encDo d] true false]) (by_ := 56) (m := h.length) (z := d) (b := true) (O.app [AObj.arr 7 [encDo d] true false]) (by simp) (fun q => by have := O.lt q; omega) (by simp [encDo]) (by omega)
  exact ⟨v', _, fun k => by rw [a1]; rfl, a2⟩
theorem grm_doc {h : Hp} {v : AV} {o : List Docu} {d : Docu} (O : Grm 7 encDo h v o) (hl : o.length < 1000000) : ∃ v' h', (∀ {β : Type} (k : AV → Hp → Option β), effK (appE 7 56 v (.sl 7 h.length 0 1 1 true) (h ++ [.arr 7 [encDo d] true false]) (h ++ [AObj.arr 7 [encDo d] true false]).length) (h ++ [.arr 7 [encDo d] true false]) k = k v' h') ∧ Grm 7 encDo h' v' (o ++ [d]) := by
  obtain ⟨j, hj, hjl⟩ := O.lt
  obtain ⟨v', e, a1, a2, -⟩ := Grm.snocE (h := h ++ [AObj.arr 7 [encDo d] true false]) (by_ := 56) (m := h.length) (z := d) (b := true) (O.app [AObj.arr 7 [encDo d] true false]) (by simp) (by rw [hj]; simp; omega) (by simp [encDo]) (by omega)
  exact ⟨v', _, fun k => by rw [a1]; rfl, a2⟩
end
theorem All_L2 {N : Nat} {x0 : AV → Hp → Option AV} {X : Option AV} {n : List Msg} {b : Bool} (hs : Srt n) (hv : ∀ m ∈ n, checkM m = 0) (hl : n.length < 1000) (hx : ∀ v h, Gro 7 encDo h v (allG n 0 n) → x0 v h = X) : ∀ (k : Nat) (pre post : List Msg) (p : Int) (o : List Docu) (v : AV) (h : Hp), n = pre ++ post → post.length < k → (pre = [] → p = 0) → (∀ q, pre.getLast? = some q → p = q.mv) → o ++ allG n p post = allG n 0 n → o.length ≤ pre.length → Gro 7 encDo h v o →
    f_document_All_L2 Try.prog t_document_All d_document_All N x0 k (.lst 7 b (n.map encM)) v (.lst 7 b (n.map encM)) (I n.length) (I pre.length) h = X := by
  intro k
  induction k with
  | zero => intro pre post p o v h _ h2; omega
  | succ k ih =>
    intro pre post p o v h hc hn hp0 hp ho hol O
    show f_document_All_b2 Try.prog t_document_All d_document_All N (f_document_All_L2 Try.prog t_document_All d_document_All N x0 k) x0 _ _ _ _ _ h = _
    cases post with
    | nil =>
      have : n = pre := by simpa using hc
      subst this
      have c1 : ¬ ((n.length : Int) < (n.length : Int)) := by omega
      simp -implicitDefEqProofs only [f_document_All_b2, arithK_lss, c1, decide_false, condK_bool, Bool.false_eq_true, if_false]
      simp only [allG, List.append_nil] at ho
      exact hx v h (by rw [← ho]; exact O)
    | cons m post =>
      have hi : pre.length < n.length := by rw [hc]; simp
      have hci : n[pre.length]? = some m := by rw [hc]; simp
      have hmn : m ∈ n := by rw [hc]; simp
      obtain ⟨-, -, hm1, -⟩ := checkM_kind (hv m hmn)
      have hlt : ((pre.length : Int) < (n.length : Int)) := by omega
      have hw : IntKind.i64.wrap ((pre.length : Int) + 1) = (((pre ++ [m]).length : Nat) : Int) := by rw [wrap64 (by omega) (by omega)]; simp
      have ic : ∀ k : Go.AM.K AV, iaK 7 (.lst 7 b (n.map encM)) (I pre.length) k = k (.ep (encM m) 0) := fun k => iaK_at pre.length rfl hci k
      have ld : ∀ k : Go.AM.K AV, ldK 7 true (.ep (encM m) 0) h k = k (.agg (encM m)) := fun k => rfl
      have O1 := O.app [AObj.arr 7 [encM m] true false]
      have cnd : ∀ (K : AV → Hp → Option AV), grpK false (.s (.bool ((pre.length : Int) == 0))) (h ++ [.arr 7 [encM m] true false]) (fun k16 => arithK .sub (I pre.length) (.s (.int .i64 1)) fun x19 => iaK 7 (.lst 7 b (n.map encM)) x19 fun x20 => faK 0 x20 fun x21 => ldK 1 false x21 (h ++ [.arr 7 [encM m] true false]) fun x22 => eqK Try.prog true 3 (I m.mv) x22 (h ++ [.arr 7 [encM m] true false]) fun x23 => k16 x23 (h ++ [.arr 7 [encM m] true false])) K = K (B (!(m.mv == p))) (h ++ [.arr 7 [encM m] true false]) := fun K => by
        rcases List.eq_nil_or_concat pre with e | ⟨pre', q, e⟩
        · subst e
          have : (m.mv == p) = false := by rw [hp0 rfl]; simp; omega
          rw [this]
          rfl
        · rw [List.concat_eq_append] at e
          subst e
          have hq : p = q.mv := hp q (by simp)
          have e0 : (((pre' ++ [q]).length : Nat) : Int) ≠ 0 := by simp; omega
          have e0' : ((((pre' ++ [q]).length : Nat) : Int) == 0) = false := by simpa using e0
          have w1 : IntKind.i64.wrap ((((pre' ++ [q]).length : Nat) : Int) - 1) = ((pre'.length : Nat) : Int) := by
            have hpl : (pre' ++ [q]).length = pre'.length + 1 := by simp
            rw [hpl] at hi ⊢
            rw [wrap64 (by omega) (by omega)]; omega
          have gq : n[pre'.length]? = some q := by rw [hc]; simp
          have iq : ∀ k : Go.AM.K AV, iaK 7 (.lst 7 b (n.map encM)) (I pre'.length) k = k (.ep (encM q) 0) := fun k => iaK_at pre'.length rfl gq k
          simp -implicitDefEqProofs only [e0', grpK_ff, arithK_sub, w1, iq, faK_ep, Nat.add_zero, le0, eqK_int, Bool.true_xor, hq]
      simp -implicitDefEqProofs only [f_document_All_b2, arithK_lss, hlt, decide_true, condK_bool, if_true, ic, ld, bxh, sth, eqK_int, Bool.false_xor, faK_ptr, Nat.zero_add, lh0, cnd]
      by_cases hmp : m.mv = p
      · have e : (m.mv == p) = true := by simpa using hmp
        simp -implicitDefEqProofs only [e, Bool.not_true, Bool.false_eq_true, if_false, f_document_All_j4, f_document_All_j3, arithK_add, hw]
        simp only [allG, hmp, ne_eq, not_true_eq_false, if_false] at ho
        refine ih (pre ++ [m]) post p o v _ (by simpa using hc) (by simpa using hn) (by simp) (fun q hq => ?_) ho (by simp; omega) O1
        simp at hq; rw [← hq]; exact hmp.symm
      · have e : (m.mv == p) = false := by simpa using hmp
        have fo := fun h => F_document_of_val n b m.mv (by omega) h
        rw [docF_eq hs hv (by omega)] at fo
        have hoN : o.length < 1000000 := by omega
        obtain ⟨v', h', g1, g2⟩ := gro_doc (d := docS m.mv n) O1 hoN
        simp -implicitDefEqProofs only [e, Bool.not_false, if_true, t_document_All_46, callK_F, fo, bsD, g1, f_document_All_j4, f_document_All_j3, arithK_add, hw]
        simp only [allG, if_pos hmp] at ho
        exact ih (pre ++ [m]) post m.mv (o ++ [docS m.mv n]) v' h' (by simpa using hc) (by simpa using hn) (by simp) (fun q hq => by simp at hq; rw [hq]) (by simpa using ho) (by simp; omega) g2
theorem All_key (l : List Msg) (b : Bool) (hl : l.length < 1000) : ∃ w, (∀ st, f_document_All Try.prog t_document_All d_document_All NN (fun v g => cvt st g v) (SLm b l) [] = some (.tup [w, I (errM l)])) ∧ nrm (.l 7) w = .lst 7 (allS l).isEmpty ((allS l).map encDo) := by
  have fN := F_document_Normal_val l b (by omega)
  have x0 : ∀ k : Go.AM.K AV, exK (normR b l) 0 k = k (if errM l = 0 then SLm b (normL l) else .lst 7 true []) := fun k => rfl
  have x1 : ∀ k : Go.AM.K AV, exK (normR b l) 1 k = k (I (errM l)) := fun k => rfl
  by_cases he : errM l = 0
  · have hn := normL_length l
    obtain ⟨w, hw1, hw2⟩ : ∃ w, (∀ st v h, Gro 7 encDo h v (allG (normL l) 0 (normL l)) → f_document_All_j1 Try.prog t_document_All d_document_All NN (fun v g => cvt st g v) v h = some (.tup [w, I 0])) ∧ nrm (.l 7) w = .lst 7 (allG (normL l) 0 (normL l)).isEmpty ((allG (normL l) 0 (normL l)).map encDo) := by
      by_cases hz : allG (normL l) 0 (normL l) = []
      · refine ⟨nilS, fun st v h O => ?_, by rw [hz]; rfl⟩
        rcases O with ⟨-, rfl⟩ | ⟨h1, -⟩
        · rfl
        · exact absurd hz h1
      · refine ⟨.lst 7 false ((allG (normL l) 0 (normL l)).map encDo), fun st v h O => ?_, ?_⟩
        · rcases O with ⟨h1, -⟩ | ⟨h1, k, rfl, h2⟩
          · exact absurd h1 hz
          · have := cvt_whole (st := st) (full := false) h2 (n := (allG (normL l) 0 (normL l)).length) (fr := (allG (normL l) 0 (normL l)).length) (by simp) (by simp) (okE_map fun x => by cases st <;> simp [encDo, isS])
            simp only [f_document_All_j1, cvt_tup, cvts_cons, cvts_nil, this, cvt_s]
            rfl
        · have : (allG (normL l) 0 (normL l)).isEmpty = false := by simpa using hz
          rw [this]; rfl
    refine ⟨w, fun st => ?_, by unfold allS; rw [if_pos he]; exact hw2⟩
    simp -implicitDefEqProofs only [f_document_All, t_document_All_12, callK_F, fN, x0, x1, he, eqK_int, beq_self_eq_true, Bool.true_xor, Bool.not_true, condK_bool, Bool.false_eq_true, if_false, if_true, SLm, lenK_lst, List.length_map]
    exact All_L2 (normL_srt l) (normL_ok he).2 (by omega) (hw1 st) NN [] (normL l) 0 [] nilS [] rfl (by have := NN_ge; omega) (fun _ => rfl) (by simp) rfl (by simp) .nil
  · have e : (errM l == 0) = false := by simpa using he
    refine ⟨nilS, fun st => ?_, by unfold allS; rw [if_neg he]; rfl⟩
    simp -implicitDefEqProofs only [f_document_All, t_document_All_12, callK_F, fN, x0, x1, eqK_int, e, Bool.true_xor, Bool.not_false, condK_bool, if_true]
    rfl
def allV (l : List Msg) : AV := .tup [.lst 7 (allS l).isEmpty ((allS l).map encDo), I (errM l)]
theorem F_document_All_val (l : List Msg) (b : Bool) (hl : l.length < 1000) (h : Hp) : F_document_All [SLm b l] h = some (allV l, h) := by
  obtain ⟨w, hw1, hw2⟩ := All_key l b hl
  refine (F_document_All_run (a0 := SLm b l) rfl (hw1 false) h).trans ?_
  show some (AV.tup [nrm (.l 7) w, I (errM l)], h) = _
  rw [hw2]
  rfl
theorem F_document_All_at (l : List Msg) {b : Bool} (hl : l.length < 1000) {h : Hp} {v : AV} (hv : cvts false h [v] = some [SLm b l]) : F_document_All [v] h = some (allV l, h) := by
  obtain ⟨w, hw1, hw2⟩ := All_key l b hl
  refine (F_document_All_own hv hw1).trans ?_
  show some (AV.tup [nrm (.l 7) w, I (errM l)], h) = _
  rw [hw2]
  rfl
theorem F_document_Of_at (l : List Msg) (mv : Int) {b : Bool} (hl : l.length < 1000) {h : Hp} {v : AV} (hv : cvts false h [v, I mv] = some [SLm b l, I mv]) : F_document_Of [v, I mv] h = some (tupD (ofS l mv), h) :=
  closedX_scal hv (F_document_Of_val l b mv (by omega) []) (by generalize ofS l mv = r; obtain ⟨⟨a0, a1, a2, a3, a4, a5, a6⟩, e⟩ := r; rfl)
end Go.AM


namespace Go.AM
open Go.Proofs
set_option linter.unusedVariables false
set_option linter.unusedSimpArgs false
set_option linter.constructorNameAsVariable false
set_option maxRecDepth 20000
attribute [local congr] arithK_cg eqK_cg notK_cg convK_cg pickK_cg buildK_cg ldK_cg nilK_cg sliceK_cg faK_cg fldK_cg iaK_cg iaA_cg lookK_cg capK_cg exK_cg lenK_cg minK_cg maxK_cg effK_cg callK_cg callVK_cg effD_cg gopD_cg grpK_cg condK_cg cond_cg
theorem rall_L2 {N : Nat} {x0 : AV → Hp → Option AV} {X : Option AV} {n : List Msg} (hs : Srt n) (hv : ∀ m ∈ n, checkM m = 0) (hl : n.length < 1000) (hx : ∀ v h, Grm 7 encDo h v (allG n 0 n) → x0 v h = X) : ∀ (k i : Nat) (post : List Msg) (p : Msg) (o : List Docu) (v : AV) (h : Hp), (zeroM :: n).drop (i + 1) = post → (zeroM :: n)[i]? = some p → n.length + 1 < i + 1 + k → o ++ allG n p.mv post = allG n 0 n → o.length ≤ i → Grm 7 encDo h v o →
    f_ref40_all_L2 Try.prog t_ref40_all d_ref40_all N x0 k (.lst 7 false ((zeroM :: n).map encM)) v (I ((i + 1 : Nat) : Int)) h = X := by
  intro k
  induction k with
  | zero => intro i post p o v h _ h2 h3; have := (List.getElem?_eq_some_iff.1 h2).1; simp at this; omega
  | succ k ih =>
    intro i post p o v h hd hp hn ho hol O
    have hil := (List.getElem?_eq_some_iff.1 hp).1
    show f_ref40_all_b2 Try.prog t_ref40_all d_ref40_all N (f_ref40_all_L2 Try.prog t_ref40_all d_ref40_all N x0 k) x0 _ _ _ h = _
    cases post with
    | nil =>
      have : i + 1 = (zeroM :: n).length := by
        have := congrArg List.length hd
        rw [List.length_drop] at this
        simp only [List.length_nil] at this
        omega
      have c1 : ¬ (((i + 1 : Nat) : Int) < (((zeroM :: n).length : Nat) : Int)) := by omega
      simp -implicitDefEqProofs only [f_ref40_all_b2, lenK_lst, List.length_map, arithK_lss, c1, decide_false, condK_bool, Bool.false_eq_true, if_false]
      simp only [allG, List.append_nil] at ho
      exact hx v h (by rw [← ho]; exact O)
    | cons m post =>
      have hm : (zeroM :: n)[i + 1]? = some m := by
        have := congrArg (fun q => q[0]?) hd
        simpa using this
      have hil2 := (List.getElem?_eq_some_iff.1 hm).1
      have hmn : m ∈ n := List.mem_of_getElem? (by simpa using hm : n[i]? = some m)
      obtain ⟨-, -, hm1, -⟩ := checkM_kind (hv m hmn)
      have hin : i < n.length := by simpa using hil2
      have hlt : (((i + 1 : Nat) : Int) < (((zeroM :: n).length : Nat) : Int)) := by omega
      have hw : IntKind.i64.wrap (((i + 1 : Nat) : Int) + 1) = ((i + 1 + 1 : Nat) : Int) := by rw [wrap64 (by omega) (by omega)]; omega
      have hw1 : IntKind.i64.wrap (((i + 1 : Nat) : Int) - 1) = ((i : Nat) : Int) := by rw [wrap64 (by omega) (by omega)]; omega
      have ic : ∀ k : Go.AM.K AV, iaK 7 (.lst 7 false ((zeroM :: n).map encM)) (I ((i + 1 : Nat) : Int)) k = k (.ep (encM m) 0) := fun k => iaK_at (i + 1) rfl hm k
      have ip : ∀ k : Go.AM.K AV, iaK 7 (.lst 7 false ((zeroM :: n).map encM)) (I ((i : Nat) : Int)) k = k (.ep (encM p) 0) := fun k => iaK_at i rfl hp k
      have hd2 : (zeroM :: n).drop (i + 1 + 1) = post := by
        have := congrArg (List.drop 1) hd
        simpa [List.drop_drop] using this
      simp -implicitDefEqProofs only [f_ref40_all_b2, lenK_lst, List.length_map, arithK_lss, hlt, decide_true, condK_bool, if_true, ic, faK_ep, Nat.add_zero, le0, arithK_sub, hw1, ip, eqK_int, Bool.true_xor]
      by_cases hmp : m.mv = p.mv
      · have e : (m.mv == p.mv) = true := by simpa using hmp
        simp -implicitDefEqProofs only [e, Bool.not_true, Bool.false_eq_true, if_false, f_ref40_all_j4, f_ref40_all_j3, arithK_add, hw]
        simp only [allG, hmp, ne_eq, not_true_eq_false, if_false] at ho
        exact ih (i + 1) post m o v h hd2 hm (by omega) (by rw [hmp]; exact ho) (by omega) O
      · have e : (m.mv == p.mv) = false := by simpa using hmp
        have fo := fun h => F_ref40_of_val n false m.mv (by omega) (by omega) h
        rw [docR_eq (by omega) hs hv (by omega)] at fo
        obtain ⟨v', h', g1, g2⟩ := grm_doc (d := docS m.mv n) O (by omega)
        simp -implicitDefEqProofs only [e, Bool.not_false, if_true, t_ref40_all_47, callK_F, fo, bsD, g1, f_ref40_all_j4, f_ref40_all_j3, arithK_add, hw]
        simp only [allG, if_pos hmp] at ho
        exact ih (i + 1) post m (o ++ [docS m.mv n]) v' h' hd2 hm (by omega) (by simpa using ho) (by simp; omega) g2
theorem F_ref40_all_val (l : List Msg) (b : Bool) (hl : l.length < 1000) (he : errM l = 0) (h : Hp) : F_ref40_all [.lst 7 b (l.map encM)] h = some (.lst 7 false ((allS l).map encDo), h) := by
  refine (F_ref40_all_run (v := .lst 7 false ((allS l).map encDo)) rfl ?_ h).trans rfl
  simp only [nrm, nrmC]
  have fN := F_ref40_normal_val l b hl
  have hn := normL_length l
  have fG := fun h => F_ref40_guard_val (normL l) false (by omega) h
  have bs : ∀ k : AV → Hp → Option AV, effK (bsE 7 zM 0 [] ([] : Hp).length) [] k = k (.sl 7 0 0 0 0 true) [.arr 7 [] true false] := fun k => by simp [bsE, fillS, effK, ap]
  simp -implicitDefEqProofs only [f_ref40_all, t_ref40_all_43, t_ref40_all_48, callK_F, fN, fG, bs]
  refine rall_L2 (x0 := fun w27_4 h => f_ref40_all_j1 Try.prog t_ref40_all d_ref40_all NN (fun v g => cvt false g v) w27_4 h) (X := some (AV.lst 7 false ((allS l).map encDo))) (normL_srt l) (normL_ok he).2 (by omega) ?_ NN 0 (normL l) zeroM [] (.sl 7 0 0 0 0 true) [.arr 7 [] true false] rfl rfl (by have := NN_ge; omega) rfl (by simp) ⟨0, true, rfl, rfl, fun _ => rfl⟩
  intro v h O
  unfold allS
  rw [if_pos he]
  exact O.cvt (fun x st => by cases st <;> simp [encDo, isS]) false
def allR (l : List Msg) : AV := .tup [.lst 7 (errM l != 0) ((allS l).map encDo), I (errM l)]
theorem F_ref40_All_val (l : List Msg) (b : Bool) (hl : l.length < 1000) (h : Hp) : F_ref40_All [.lst 7 b (l.map encM)] h = some (allR l, h) := by
  have fS := F_ref40_Start_val l b (by omega)
  by_cases he : errM l = 0
  · have fA := F_ref40_all_val l b hl he
    have e : (errM l == 0) = true := by simpa using he
    refine (F_ref40_All_run (v := .tup [.lst 7 false ((allS l).map encDo), I 0]) rfl ?_ h).trans ?_
    · simp only [nrm, nrmC]
      simp -implicitDefEqProofs only [f_ref40_All, t_ref40_All_42, t_ref40_All_49, callK_F, fS, fA, eqK_int, e, Bool.true_xor, Bool.not_true, condK_bool, Bool.false_eq_true, if_false]
      rfl
    · unfold allR; rw [he]; rfl
  · have e : (errM l == 0) = false := by simpa using he
    refine (F_ref40_All_run (v := .tup [nilS, I (errM l)]) rfl ?_ h).trans ?_
    · simp only [nrm, nrmC]
      simp -implicitDefEqProofs only [f_ref40_All, t_ref40_All_42, callK_F, fS, eqK_int, e, Bool.true_xor, Bool.not_false, condK_bool, if_true]
      rfl
    · have e2 : (errM l != 0) = true := by simpa using he
      unfold allR
      rw [e2, show allS l = [] from if_neg he]
      rfl
def openF (to : Int) (s : Int) (d : Docu) : Int := if d.stage = 1 ∧ d.to = to then IntKind.i64.wrap (s + d.sent) else s
def openS (l : List Msg) (to : Int) : Int × Int := if errM l ≠ 0 then (0, errM l) else if isNode to = false then (0, 2) else ((allS l).foldl (openF to) 0, 0)
theorem Open_L2 {T : Tab} {D : DTab} {N : Nat} {x1 : AV → Hp → Option AV} {X : Option AV} {l : List Docu} {b : Bool} {to : Int} (hl : l.length < 1000000) (hx : ∀ h, x1 (I (l.foldl (openF to) 0)) h = X) : ∀ (n i : Nat) (h : Hp), i ≤ l.length → l.length < i + n →
    f_document_Open_L2 Try.prog T D N x1 n (I to) (I ((l.take i).foldl (openF to) 0)) (.lst 7 b (l.map encDo)) (I l.length) (I i) h = X := by
  intro n
  induction n with
  | zero => intro i h h1 h2; omega
  | succ n ih =>
    intro i h h1 h2
    show f_document_Open_b2 Try.prog T D N (f_document_Open_L2 Try.prog T D N x1 n) x1 _ _ _ _ _ h = _
    rcases Nat.lt_or_ge i l.length with hi | hi
    · have hd : l[i]? = some l[i] := List.getElem?_eq_getElem hi
      have c1 : ((i : Int) < (l.length : Int)) := by omega
      have hw : IntKind.i64.wrap ((i : Int) + 1) = ((i + 1 : Nat) : Int) := by rw [wrap64 (by omega) (by omega)]; omega
      have ic : ∀ k : Go.AM.K AV, iaK 7 (.lst 7 b (l.map encDo)) (I i) k = k (.ep (encDo l[i]) 0) := fun k => iaK_at i rfl hd k
      have ld : ∀ k : Go.AM.K AV, ldK 7 true (.ep (encDo l[i]) 0) h k = k (.agg (encDo l[i])) := fun k => rfl
      have e : (l.take (i + 1)).foldl (openF to) 0 = openF to ((l.take i).foldl (openF to) 0) l[i] := by
        rw [List.take_add_one, hd, List.foldl_append]
        rfl
      have step := fun h => ih (i + 1) h (by omega) (by omega)
      rw [e] at step
      generalize l[i] = d at *
      simp -implicitDefEqProofs only [f_document_Open_b2, arithK_lss, c1, decide_true, condK_bool, if_true, ic, ld, bxh, std, faK_ptr, Nat.zero_add, ld1, ld3, ld4, eqK_int, Bool.false_xor, grpK_and, f_document_Open_j4, f_document_Open_j3, arithK_add, hw]
      unfold openF at step
      by_cases hc : d.stage = 1 ∧ d.to = to
      · rw [if_pos (by simpa using hc)]
        rw [if_pos hc] at step
        exact step _
      · rw [if_neg (by simpa using hc)]
        rw [if_neg hc] at step
        exact step _
    · have : i = l.length := by omega
      subst this
      have c1 : ¬ ((l.length : Int) < (l.length : Int)) := by omega
      rw [List.take_length]
      simp -implicitDefEqProofs only [f_document_Open_b2, arithK_lss, c1, decide_false, condK_bool, Bool.false_eq_true, if_false]
      exact hx h
theorem rOpen_L2 {T : Tab} {D : DTab} {N : Nat} {x1 : AV → Hp → Option AV} {X : Option AV} {l : List Docu} {b : Bool} {to : Int} (hl : l.length < 1000000) (hx : ∀ h, x1 (I (l.foldl (openF to) 0)) h = X) : ∀ (n i : Nat) (h : Hp), i ≤ l.length → l.length < i + n →
    f_ref40_Open_L2 Try.prog T D N x1 n (I to) (.lst 7 b (l.map encDo)) (I ((l.take i).foldl (openF to) 0)) (I i) h = X := by
  intro n
  induction n with
  | zero => intro i h h1 h2; omega
  | succ n ih =>
    intro i h h1 h2
    show f_ref40_Open_b2 Try.prog T D N (f_ref40_Open_L2 Try.prog T D N x1 n) x1 _ _ _ _ h = _
    rcases Nat.lt_or_ge i l.length with hi | hi
    · have hd : l[i]? = some l[i] := List.getElem?_eq_getElem hi
      have c1 : ((i : Int) < (l.length : Int)) := by omega
      have hw : IntKind.i64.wrap ((i : Int) + 1) = ((i + 1 : Nat) : Int) := by rw [wrap64 (by omega) (by omega)]; omega
      have ic : ∀ k : Go.AM.K AV, iaK 7 (.lst 7 b (l.map encDo)) (I i) k = k (.ep (encDo l[i]) 0) := fun k => iaK_at i rfl hd k
      have e : (l.take (i + 1)).foldl (openF to) 0 = openF to ((l.take i).foldl (openF to) 0) l[i] := by
        rw [List.take_add_one, hd, List.foldl_append]
        rfl
      have step := fun h => ih (i + 1) h (by omega) (by omega)
      rw [e] at step
      generalize l[i] = d at *
      have a1 : ∀ k : Go.AM.K AV, ldK 1 false (.ep (encDo d) 1) h k = k (I d.stage) := fun k => rfl
      have a3 : ∀ k : Go.AM.K AV, ldK 1 false (.ep (encDo d) 3) h k = k (I d.to) := fun k => rfl
      have a4 : ∀ k : Go.AM.K AV, ldK 1 false (.ep (encDo d) 4) h k = k (I d.sent) := fun k => rfl
      simp -implicitDefEqProofs only [f_ref40_Open_b2, lenK_lst, List.length_map, arithK_lss, c1, decide_true, condK_bool, if_true, ic, faK_ep, Nat.zero_add, a1, a3, a4, eqK_int, Bool.false_xor, grpK_and, f_ref40_Open_j4, f_ref40_Open_j3, arithK_add, hw]
      unfold openF at step
      by_cases hc : d.stage = 1 ∧ d.to = to
      · rw [if_pos (by simpa using hc)]
        rw [if_pos hc] at step
        exact step _
      · rw [if_neg (by simpa using hc)]
        rw [if_neg hc] at step
        exact step _
    · have : i = l.length := by omega
      subst this
      have c1 : ¬ ((l.length : Int) < (l.length : Int)) := by omega
      rw [List.take_length]
      simp -implicitDefEqProofs only [f_ref40_Open_b2, lenK_lst, List.length_map, arithK_lss, c1, decide_false, condK_bool, Bool.false_eq_true, if_false]
      exact hx h
abbrev tupI (r : Int × Int) : AV := .tup [I r.1, I r.2]
theorem F_document_Open_val (l : List Msg) (b : Bool) (to : Int) (hl : l.length < 1000) (h : Hp) : F_document_Open [SLm b l, I to] h = some (tupI (openS l to), h) := by
  refine F_document_Open_run (a0 := SLm b l) (a1 := I to) rfl ?_ h
  have fA := F_document_All_val l b hl
  have fn := F_document_node_val to
  have x0 : ∀ k : Go.AM.K AV, exK (allV l) 0 k = k (.lst 7 (allS l).isEmpty ((allS l).map encDo)) := fun k => rfl
  have x1 : ∀ k : Go.AM.K AV, exK (allV l) 1 k = k (I (errM l)) := fun k => rfl
  simp only [nrm, nrmC]
  simp -implicitDefEqProofs only [f_document_Open, t_document_Open_20, t_document_Open_44, callK_F, fA, fn, x0, x1, eqK_int, Bool.true_xor, condK_bool, notK_bool, lenK_lst, List.length_map]
  by_cases he : errM l = 0
  · have e : (errM l == 0) = true := by simpa using he
    have eo : openS l to = if isNode to = false then (0, 2) else ((allS l).foldl (openF to) 0, 0) := if_neg (by simp [he])
    rw [eo]
    simp only [e, Bool.not_true, Bool.false_eq_true, if_false]
    cases isNode to with
    | false => rfl
    | true =>
      simp only [Bool.not_true, Bool.false_eq_true, if_false]
      exact Open_L2 (N := NN) (x1 := fun w30_8 h => f_document_Open_j1 Try.prog t_document_Open d_document_Open NN (fun v g => cvt false g v) w30_8 h) (l := allS l) (b := (allS l).isEmpty) (to := to) (by have := allS_len l; omega) (fun h => rfl) NN 0 [] (by omega) (by have := allS_len l; have := NN_ge; omega)
  · have e : (errM l == 0) = false := by simpa using he
    rw [show openS l to = (0, errM l) from if_pos he]
    simp only [e, Bool.not_false, if_true]
    rfl
theorem F_ref40_Open_val (l : List Msg) (b : Bool) (to : Int) (hl : l.length < 1000) (h : Hp) : F_ref40_Open [.lst 7 b (l.map encM), I to] h = some (tupI (openS l to), h) := by
  refine F_ref40_Open_run (a0 := .lst 7 b (l.map encM)) (a1 := I to) rfl ?_ h
  have fS := F_ref40_Start_val l b (by omega)
  have fn := F_ref40_Node_val to
  simp only [nrm, nrmC]
  by_cases he : errM l = 0
  · have e : (errM l == 0) = true := by simpa using he
    have fA := F_ref40_all_val l b hl he
    have eo : openS l to = if isNode to = false then (0, 2) else ((allS l).foldl (openF to) 0, 0) := if_neg (by simp [he])
    rw [eo]
    simp -implicitDefEqProofs only [f_ref40_Open, t_ref40_Open_42, t_ref40_Open_49, t_ref40_Open_45, callK_F, fS, fA, fn, eqK_int, e, Bool.true_xor, Bool.not_true, Bool.false_eq_true, if_false, condK_bool, notK_bool]
    cases isNode to with
    | false => rfl
    | true =>
      simp only [Bool.not_true, Bool.false_eq_true, if_false]
      exact rOpen_L2 (N := NN) (x1 := fun w27_8 h => f_ref40_Open_j1 Try.prog t_ref40_Open d_ref40_Open NN (fun v g => cvt false g v) w27_8 h) (l := allS l) (b := false) (to := to) (by have := allS_len l; omega) (fun h => rfl) NN 0 [] (by omega) (by have := allS_len l; have := NN_ge; omega)
  · have e : (errM l == 0) = false := by simpa using he
    rw [show openS l to = (0, errM l) from if_pos he]
    simp -implicitDefEqProofs only [f_ref40_Open, t_ref40_Open_42, callK_F, fS, eqK_int, e, Bool.true_xor, Bool.not_false, if_true, condK_bool]
    rfl
theorem F_document_Open_at (l : List Msg) (to : Int) {b : Bool} (hl : l.length < 1000) {h : Hp} {v : AV} (hv : cvts false h [v, I to] = some [SLm b l, I to]) : F_document_Open [v, I to] h = some (tupI (openS l to), h) :=
  closedX_scal hv (F_document_Open_val l b to hl []) rfl
def few40 (n : Nat) : Bool := decide ((n : Int) ≤ 16) || ((n : Int) == 65)
theorem F_ref40_Few_val (l : List Msg) (b : Bool) (h : Hp) : F_ref40_Few [.lst 7 b (l.map encM)] h = some (B (few40 l.length), h) := by
  refine F_ref40_Few_run rfl ?_ h
  simp only [nrm, nrmC]
  simp -implicitDefEqProofs only [f_ref40_Few, lenK_lst, List.length_map, arithK_leq, eqK_int, Bool.false_xor, grpK_or]
  rfl
end Go.AM


namespace Go.AM
open Go.Proofs
set_option linter.unusedVariables false
set_option linter.unusedSimpArgs false
set_option linter.constructorNameAsVariable false
set_option maxRecDepth 20000
attribute [local congr] arithK_cg eqK_cg notK_cg convK_cg pickK_cg buildK_cg ldK_cg nilK_cg sliceK_cg faK_cg fldK_cg iaK_cg iaA_cg lookK_cg capK_cg exK_cg lenK_cg minK_cg maxK_cg effK_cg callK_cg callVK_cg effD_cg gopD_cg grpK_cg condK_cg cond_cg
theorem slices_Equal_Document_L2 {T : Tab} {D : DTab} {N : Nat} {x0 : Hp → Option AV} {xr : AV → Hp → Option AV} {a b : List Docu} {p q : Bool} {h : Hp} (hab : a.length = b.length) (hl : a.length < 1000000) (hx : x0 h = xr (B true) h) (heq : ∀ (x y : Docu) (k : Go.AM.K AV), eqK Try.prog true 35 (.agg (encDo x)) (.agg (encDo y)) h k = k (B (!(x == y)))) : ∀ (n i : Nat), i ≤ a.length → a.length < i + n →
    f_slices_Equal_Document_L2 Try.prog T D N x0 xr n (.lst 7 p (a.map encDo)) (.lst 7 q (b.map encDo)) (I a.length) (I i) h = xr (B (decide (a.drop i = b.drop i))) h := by
  intro n
  induction n with
  | zero => intro i h1 h2; omega
  | succ n ih =>
    intro i h1 h2
    show f_slices_Equal_Document_b2 Try.prog T D N (f_slices_Equal_Document_L2 Try.prog T D N x0 xr n) x0 xr _ _ _ _ h = _
    rcases Nat.lt_or_ge i a.length with hi | hi
    · have c1 : ((i : Int) < (a.length : Int)) := by omega
      have hw : IntKind.i64.wrap ((i : Int) + 1) = ((i + 1 : Nat) : Int) := by rw [wrap64 (by omega) (by omega)]; omega
      have ia : ∀ k : Go.AM.K AV, iaK 7 (.lst 7 p (a.map encDo)) (I i) k = k (.ep (encDo a[i]) 0) := fun k => iaK_at i rfl (List.getElem?_eq_getElem hi) k
      have ib : ∀ k : Go.AM.K AV, iaK 7 (.lst 7 q (b.map encDo)) (I i) k = k (.ep (encDo (b[i]'(by omega))) 0) := fun k => iaK_at i rfl (List.getElem?_eq_getElem (by omega)) k
      have ld : ∀ (x : Docu) (k : Go.AM.K AV), ldK 7 true (.ep (encDo x) 0) h k = k (.agg (encDo x)) := fun x k => rfl
      rw [List.drop_eq_getElem_cons hi, List.drop_eq_getElem_cons (show i < b.length by omega)]
      simp -implicitDefEqProofs only [f_slices_Equal_Document_b2, lenK_lst, List.length_map, arithK_lss, c1, decide_true, condK_bool, if_true, ia, ib, ld, heq, arithK_add, hw, ih (i + 1) (by omega) (by omega), List.cons.injEq, Bool.decide_and]
      by_cases e : a[i] = b[i]
      · simp [e]
      · simp [e]
    · have : i = a.length := by omega
      subst this
      have c1 : ¬ ((a.length : Int) < (a.length : Int)) := by omega
      simp -implicitDefEqProofs only [f_slices_Equal_Document_b2, lenK_lst, List.length_map, arithK_lss, c1, decide_false, condK_bool, Bool.false_eq_true, if_false, hx]
      rw [List.drop_eq_nil_of_le (Nat.le_refl _), List.drop_eq_nil_of_le (by omega)]
      rfl
theorem F_slices_Equal_Document_val (a b : List Docu) (p q : Bool) (hl : a.length < 1000000) (heq : ∀ (x y : Docu) (h : Hp) (k : Go.AM.K AV), eqK Try.prog true 35 (.agg (encDo x)) (.agg (encDo y)) h k = k (B (!(x == y)))) (h : Hp) : F_slices_Equal_Document [.lst 7 p (a.map encDo), .lst 7 q (b.map encDo)] h = some (B (decide (a = b)), h) := by
  refine F_slices_Equal_Document_run rfl ?_ h
  simp only [nrm, nrmC]
  by_cases hab : a.length = b.length
  · have e : ((a.length : Int) == (b.length : Int)) = true := by simp [hab]
    have := slices_Equal_Document_L2 (T := t_slices_Equal_Document) (D := d_slices_Equal_Document) (N := NN) (x0 := fun h => f_slices_Equal_Document_j1 Try.prog t_slices_Equal_Document d_slices_Equal_Document NN (fun v g => cvt false g v) h) (xr := fun w13_4 h => cvt false h w13_4) (a := a) (b := b) (p := p) (q := q) (h := []) hab hl rfl (fun x y k => heq x y [] k) NN 0 (by omega) (by have := NN_ge; omega)
    simp only [List.drop_zero] at this
    simp -implicitDefEqProofs only [f_slices_Equal_Document, lenK_lst, List.length_map, eqK_int, e, Bool.true_xor, Bool.not_true, condK_bool, Bool.false_eq_true, if_false]
    exact this
  · have e : ((a.length : Int) == (b.length : Int)) = false := by simp; omega
    have hne : a ≠ b := fun h => hab (by rw [h])
    simp [f_slices_Equal_Document, e, hne]
section
variable {β : Type} {P : Program} {T : Tab} {D : DTab} {N : Nat} {K : AV → Hp → Option β}
abbrev SL {α : Type} (sz : Nat) (f : α → List AV) (b : Bool) (l : List α) : AV := .lst sz (b && l.isEmpty) (l.map f)
theorem F_slices_Clone_Message_val (l : List Msg) (b : Bool) (hl : l.length < 1000000) (h : Hp) : F_slices_Clone_Message [SL 7 encM b l] h = some (SL 7 encM b l, h) := by
  refine (F_slices_Clone_Message_run (v := if b && l.isEmpty then nilS else SL 7 encM b l) rfl ?_ h).trans ?_
  · by_cases hb : (b && l.isEmpty) = true
    · simp [f_slices_Clone_Message, hb]
    · have hb' : (b && l.isEmpty) = false := by simpa using hb
      have hle : l.length * 56 ≤ 140737488355328 := by omega
      have h2 : ((l.map encM).all fun e => e.length == 7) = true := by simp [encM]
      have h3 : okE false (l.map encM) = true := okE_map (by intro x; simp [encM])
      simp [f_slices_Clone_Message, hb', bsE, fillS, appE, readSl, hle, h2, ap]
      rw [cvt_whole rfl (by simp) (by simp) h3, SL, hb']
  · by_cases hb : (b && l.isEmpty) = true
    · obtain ⟨rfl, hl0⟩ := Bool.and_eq_true_iff.1 hb
      have : l = [] := by simpa using hl0
      subst this
      rfl
    · rw [if_neg hb]
      rfl
end
theorem equal_D (a b : List Docu) (p q : Bool) (hl : a.length < 1000000) (h : Hp) : F_slices_Equal_Document [.lst 7 p (a.map encDo), .lst 7 q (b.map encDo)] h = some (B (decide (a = b)), h) := F_slices_Equal_Document_val a b p q hl (fun x y h k => by rw [eqs_Do, Bool.true_xor]) h
abbrev e1 : Msg := ⟨5, 1, 0, 1, 1, 2, 100⟩
abbrev e2 : Msg := ⟨5, 2, 1, 2, 0, 3, 0⟩
abbrev e3 : Msg := ⟨5, 3, 0, 4, 0, 0, 98⟩
abbrev e4 : Msg := ⟨5, 3, 0, 4, 0, 0, 97⟩
abbrev exM : List Msg := [e1, e2, e3]
abbrev exD : Docu := ⟨5, 2, 1, 3, 100, 98, 1⟩
theorem ex_norm : normL exM = exM := normL_of_srt (by decide)
theorem ex_norm1 : normL [e1] = [e1] := normL_of_srt (by decide)
theorem ex_norm4 : normL [e1, e2, e3, e4] = [e1, e2, e4, e3] := by
  refine (normL_eq (o := [e1, e2, e4, e3]) (by decide) fun x => ?_).symm
  simp only [List.mem_cons, List.not_mem_nil, or_false]
  constructor
  · rintro (h | h | h | h) <;> simp [h]
  · rintro (h | h | h | h) <;> simp [h]
theorem ex_of : ofS exM 5 = (exD, 0) := by
  rw [ofS_ok (by decide), ex_norm]; decide
theorem ex_of4 : ofS [e1, e2, e3, e4] 5 = (confD 5, 0) := by
  rw [ofS_ok (by decide), ex_norm4]; decide
theorem ex_all : allS exM = [exD] := by
  unfold allS
  rw [if_pos (by decide), ex_norm]; decide
theorem ex_all1 : allS [e1] = [⟨5, 1, 1, 2, 100, 0, 0⟩] := by
  unfold allS
  rw [if_pos (by decide), ex_norm1]; decide
theorem ex_open : openS [e1] 2 = (100, 0) := by
  unfold openS
  rw [if_neg (by decide), if_neg (by decide), ex_all1]
  decide
theorem R_law40_example_val (h : Hp) : R_law40_example [] h = some (.sl 7 h.length 0 3 3 true, h ++ [.arr 7 (exM.map encM) true false]) := by
  rw [R_law40_example_raw]
  simp [f_law40_example, buildK, fillA, bsE, fillS, encM]
theorem cv_ex {h : Hp} {id : Nat} {b : Bool} {l : List Msg} {n : Nat} (x : Int) (hid : h[id]? = some (.arr 7 (l.map encM) true false)) (hn : l.length = n) : cvts false h [.sl 7 id 0 n n b, I x] = some [SLm false l, I x] := by
  rw [cvts_cons, cvt_whole hid (by simpa using hn) (by simpa using hn) (okE_map fun x => by simp [encM])]
  rfl
theorem cv_ex1 {h : Hp} {id : Nat} (x : Int) (hid : h[id]? = some (.arr 7 (exM.map encM) true false)) : cvts false h [.sl 7 id 0 1 3 false, I x] = some [SLm false [e1], I x] := by
  simp only [cvts_cons, cvts_nil, cvt, hid]
  rfl
section
variable {β : Type} {h : Hp} {n : Nat}
theorem bxn (hn : h.length = n) (k : AV → Hp → Option β) : effK (boxE 7 (.agg zM) n) h k = k (.ptr n 0 0 1) (h ++ [.arr 7 [zM] true false]) := effK_box 7 n (.agg zM) h k hn rfl rfl
theorem bsMn {d : Msg} (hn : h.length = n) (k : AV → Hp → Option β) : effK (bsE 7 zM 1 [(0, .agg (encM d))] n) h k = k (.sl 7 n 0 1 1 true) (h ++ [.arr 7 [encM d] true false]) := by simp [bsE, fillS, encM, effK, ap]
theorem bsDn {d : Docu} (hn : h.length = n) (k : AV → Hp → Option β) : effK (bsE 7 zM 1 [(0, .agg (encDo d))] n) h k = k (.sl 7 n 0 1 1 true) (h ++ [.arr 7 [encDo d] true false]) := by simp [bsE, fillS, encDo, effK, ap]
theorem ap_ex {i j : Nat} (hi : h[i]? = some (.arr 7 (exM.map encM) true false)) (hj : h[j]? = some (.arr 7 [encM e4] true false)) (hn : h.length = n) (k : AV → Hp → Option β) : effK (appE 7 56 (.sl 7 i 0 3 3 true) (.sl 7 j 0 1 1 true) h n) h k = k (.sl 7 n 0 4 4 false) (h ++ [.arr 7 ([e1, e2, e3, e4].map encM) true false]) := by
  simp [appE, readSl, hi, hj, encM, effK, ap]
end
set_option maxHeartbeats 1000000 in
theorem F_law40_awake_val (h : Hp) : F_law40_awake [] h = some (B true, h) := by
  refine F_law40_awake_run rfl ?_ h
  have fe := R_law40_example_val
  have fo : ∀ (h : Hp) (id : Nat), h[id]? = some (.arr 7 (exM.map encM) true false) → F_document_Of [.sl 7 id 0 3 3 true, I 5] h = some (tupD (exD, 0), h) := fun h id hid => (F_document_Of_at exM 5 (by simp) (cv_ex (n := 3) (b := true) 5 hid rfl)).trans (by rw [ex_of])
  have f4 : ∀ (h : Hp) (id : Nat), h[id]? = some (.arr 7 ([e1, e2, e3, e4].map encM) true false) → F_document_Of [.sl 7 id 0 4 4 false, I 5] h = some (tupD (confD 5, 0), h) := fun h id hid => (F_document_Of_at [e1, e2, e3, e4] 5 (by simp) (cv_ex (n := 4) (b := false) 5 hid rfl)).trans (by rw [ex_of4])
  have fp : ∀ (h : Hp) (id : Nat), h[id]? = some (.arr 7 (exM.map encM) true false) → F_document_Open [.sl 7 id 0 1 3 false, I 2] h = some (tupI (100, 0), h) := fun h id hid => (F_document_Open_at [e1] 2 (by simp) (cv_ex1 2 hid)).trans (by rw [ex_open])
  have fa : ∀ (h : Hp) (id : Nat), h[id]? = some (.arr 7 (exM.map encM) true false) → F_document_All [.sl 7 id 0 3 3 true] h = some (.tup [.lst 7 false ([exD].map encDo), I 0], h) := fun h id hid => by
    have hv : cvts false h [.sl 7 id 0 3 3 true] = some [SLm false exM] := by
      rw [cvts_cons, cvt_whole (n := 3) (fr := 3) (full := true) hid rfl rfl (okE_map fun x => by simp [encM]), cvts_nil]; rfl
    rw [F_document_All_at exM (by simp) hv]
    unfold allV
    rw [ex_all, show errM exM = 0 by decide]
    rfl
  have fq : ∀ (h : Hp) (id : Nat), h[id]? = some (.arr 7 [encDo exD] true false) → F_slices_Equal_Document [.lst 7 false ([exD].map encDo), .sl 7 id 0 1 1 true] h = some (B true, h) := fun h id hid => by
    have hv : cvts false h [.lst 7 false ([exD].map encDo), .sl 7 id 0 1 1 true] = some [.lst 7 false ([exD].map encDo), .lst 7 false ([exD].map encDo)] := by
      rw [cvts_cons, cvt_lst, cvts_cons, cvt_whole (es := [encDo exD]) (n := 1) (fr := 1) (full := true) (st := false) hid rfl rfl rfl, cvts_nil]; rfl
    exact closedX_scal hv (equal_D [exD] [exD] false false (by simp) []) rfl
  have l1 := F_document_Later_val exD (confD 5)
  have l2 := F_document_Later_val (confD 5) exD
  rw [show laterS exD (confD 5) = true by decide] at l1
  rw [show laterS (confD 5) exD = false by decide] at l2
  have ck := F_document_Check_val e1
  rw [show checkM e1 = 0 by decide] at ck
  have xd0 : ∀ (r : Docu × Int) (k : Go.AM.K AV), exK (tupD r) 0 k = k (.agg (encDo r.1)) := fun _ _ => rfl
  have xd1 : ∀ (r : Docu × Int) (k : Go.AM.K AV), exK (tupD r) 1 k = k (I r.2) := fun _ _ => rfl
  have xi0 : ∀ (a b : AV) (k : Go.AM.K AV), exK (.tup [a, b]) 0 k = k a := fun _ _ _ => rfl
  have xi1 : ∀ (a b : AV) (k : Go.AM.K AV), exK (.tup [a, b]) 1 k = k b := fun _ _ _ => rfl
  have b4 : ∀ k : Go.AM.K AV, buildK zM [(some (0, 1), I 5), (some (1, 1), I 3), (some (3, 1), I 4), (some (6, 1), I 97)] k = k (.agg (encM e4)) := fun _ => rfl
  have b5 : ∀ k : Go.AM.K AV, buildK zM [(some (0, 1), I 5), (some (1, 1), I 2), (some (2, 1), I 1), (some (3, 1), I 3), (some (4, 1), I 100), (some (5, 1), I 98), (some (6, 1), I 1)] k = k (.agg (encDo exD)) := fun _ => rfl
  have b6 : ∀ k : Go.AM.K AV, buildK zM [(some (0, 1), I 5), (some (1, 1), I 5)] k = k (.agg (encDo (confD 5))) := fun _ => rfl
  have sc : ∀ (id : Nat) (k : Go.AM.K AV), sliceK 7 (.sl 7 id 0 3 3 true) none (some (I 1)) none k = k (.sl 7 id 0 1 3 false) := fun _ _ => rfl
  have ia : ∀ (id : Nat) (k : Go.AM.K AV), iaK 7 (.sl 7 id 0 3 3 true) (I 0) k = k (.ptr id 0 0 3) := fun _ _ => rfl
  have le : ∀ (h : Hp) (id : Nat), h[id]? = some (.arr 7 (exM.map encM) true false) → ∀ k : Go.AM.K AV, ldK 7 true (.ptr id 0 0 3) h k = k (.agg (encM e1)) := fun h id hid k => ld_el hid rfl rfl k
  have eD : ∀ (x y : Docu) (h : Hp) (k : Go.AM.K AV), eqK Try.prog false 35 (.agg (encDo x)) (.agg (encDo y)) h k = k (B (x == y)) := fun x y h k => by rw [eqs_Do, Bool.false_xor]
  have w0 : IntKind.i64.wrap (0 + 0) = 0 := by kernel_rfl
  have sD : ∀ (d : Docu) (h : Hp) (id : Nat), h[id]? = some (.arr 7 [zM] true false) → ∀ k : AV → Hp → Option AV, effK (stE 7 (.ptr id 0 0 1) (.agg (encDo d)) h) h k = k .u (h.set id (.arr 7 [encDo d] true false)) := fun d h id hid k => by
    rw [effK_put (v := .u) (id := id) (o := .arr 7 [encDo d] true false) (ft := [id]) (by simp [hid, encDo])]
  have lD : ∀ (d : Docu) (h : Hp) (id : Nat), h[id]? = some (.arr 7 [encDo d] true false) → ∀ k : Go.AM.K AV, ldK 7 true (.ptr id 0 0 1) h k = k (.agg (encDo d)) := fun d h id hid k => by simp [hid, encDo]
  have lD1 := lD exD
  have lD2 := lD (confD 5)
  simp -implicitDefEqProofs only [f_law40_awake, t_law40_awake_36, t_law40_awake_18, t_law40_awake_20, t_law40_awake_22, t_law40_awake_25, t_law40_awake_15, t_law40_awake_34, callK_F, fe, List.nil_append, List.cons_append, List.length_cons, List.length_nil, Nat.zero_add, Nat.reduceAdd, fo, f4, fp, fa, fq, l1, l2, ck, xd0, xd1, xi0, xi1, b4, b5, b6, sc, ia, le, eD, bxn, sD, lD1, lD2, bsMn, bsDn, ap_ex, List.getElem?_cons_succ, List.getElem?_cons_zero, List.set_cons_succ, List.set_cons_zero, eqK_int, beq_self_eq_true, Bool.false_xor, grpK_tt, notK_bool, Bool.not_false, arithK_add, w0]
  rfl
end Go.AM


namespace Go.AM
open Go.RowKit
set_option linter.unusedVariables false
def mu0 (w : World) : Mu := ⟨fun _ => .virt none, w, fun k => k < w.heap.size⟩
theorem rel0 (w : World) : Rel (mu0 w) [] w where
  obj := fun id o h => by simp at h
  sep := fun i j o p b x c y d h => by simp at h
  apart := fun i sz es nil b x c h => by simp at h
  imm := fun k hk => ⟨hk, rfl, fun ⟨id, o, off, c, h, _⟩ => by simp at h⟩
theorem own0 (w : World) (b : Nat) : ¬ Own (mu0 w) [] b := fun ⟨id, o, off, c, h, _⟩ => by simp at h
theorem below0 {w w' : World} {μ' : Mu} {h' : Hp} (s : Step (mu0 w) [] w μ' h' w') : Below w.heap.size w w' :=
  ⟨s.frame.os, s.frame.tape, s.frame.output, s.frame.size, fun k hk => s.frame.block k hk (own0 w k)⟩
theorem row_calls {P : Program} {f : FuncId} {F : Fun} {args : List AV} {h' : Hp} {b : Bool} {W : World} {cargs : Array Value} (hc : CSound P f F) (hF : F args [] = some (.s (.bool b), h')) (hv : VRs (mu0 W) [] args cargs.toList) :
    Calls P f cargs W fun e W' => e = .returned (.bool b) ∧ Below W.heap.size W W' := by
  refine (hc args [] _ h' hF (mu0 W) W cargs (rel0 W) hv).2.mono fun e W' => ?_
  rintro ⟨cv, μ', rfl, s, hr⟩
  simp only [VR] at hr
  exact ⟨by rw [hr.2], below0 s⟩

inductive Ty where
  | int (k : IntKind)
  | bool
  | str
  | sl (e : List Ty)
def tyFs (f : TypeId → Option (List Ty)) (size : TypeId → Nat) : List Field → Nat → Option (List Ty)
  | [], _ => some []
  | x :: l, pos => match f x.type, tyFs f size l (pos + size x.type) with
    | some a, some b => if x.offset = pos ∧ a.length = size x.type then some (a ++ b) else none
    | _, _ => none
def tyOf (P : Program) : Nat → TypeId → Option (List Ty)
  | 0, _ => none
  | n + 1, t => match P.underlying t with
    | some .bool => some [.bool]
    | some (.int k) => some [.int k]
    | some .string => some [.str]
    | some (.slice e) => match tyOf P n e with
      | some l => if l.length = P.cellsOf e ∧ 0 < l.length then some [.sl l] else none
      | none => none
    | some (.struct fs) => match tyFs (tyOf P n) P.cellsOf fs.toList 0 with
      | some l => if l.length = P.cellsOf t then some l else none
      | none => none
    | some (.array m e) => match tyOf P n e with
      | some l => if l.length = P.cellsOf e ∧ m * P.cellsOf e = P.cellsOf t then some (List.replicate m l).flatten else none
      | none => none
    | _ => none
mutual
def HasT : Ty → AV → Prop
  | .int k, a => ∃ n, a = .s (.int k n) ∧ (Lit.int k n).wf = true
  | .bool, a => ∃ b, a = .s (.bool b)
  | .str, a => ∃ s : ByteArray, a = .s (.string s) ∧ s.size ≤ maxLen
  | .sl ts, a => ∃ nil es, a = .lst ts.length nil es ∧ (nil = true → es = []) ∧ es.length ≤ maxLen ∧ ∀ e ∈ es, HasTs ts e
def HasTs : List Ty → List AV → Prop
  | [], asl => asl = []
  | t :: ts, asl => ∃ a as', asl = a :: as' ∧ HasT t a ∧ HasTs ts as'
end
theorem HasTs.app : ∀ {ts us : List Ty} {asl bs : List AV}, HasTs ts asl → HasTs us bs → HasTs (ts ++ us) (asl ++ bs)
  | [], us, asl, bs, h, k => by simp only [HasTs] at h; subst h; exact k
  | t :: ts, us, asl, bs, h, k => by
    simp only [HasTs] at h
    obtain ⟨a, as', rfl, h1, h2⟩ := h
    simp only [List.cons_append, HasTs]
    exact ⟨a, _, rfl, h1, HasTs.app h2 k⟩
theorem HasTs.len : ∀ {ts : List Ty} {asl : List AV}, HasTs ts asl → asl.length = ts.length
  | [], asl, h => by simp only [HasTs] at h; subst h; rfl
  | t :: ts, asl, h => by
    simp only [HasTs] at h
    obtain ⟨a, as', rfl, h1, h2⟩ := h
    simp [HasTs.len h2]
theorem HasT.ok : ∀ {t : Ty} {a : AV}, HasT t a → okC a = true
  | .int k, a, h => by simp only [HasT] at h; obtain ⟨n, rfl, _⟩ := h; rfl
  | .bool, a, h => by simp only [HasT] at h; obtain ⟨n, rfl⟩ := h; rfl
  | .str, a, h => by simp only [HasT] at h; obtain ⟨n, rfl, _⟩ := h; rfl
  | .sl ts, a, h => by simp only [HasT] at h; obtain ⟨n, es, rfl, _⟩ := h; rfl
theorem HasTs.ok : ∀ {ts : List Ty} {asl : List AV}, HasTs ts asl → ∀ x ∈ asl, okC x = true
  | [], asl, h, x, hx => by simp only [HasTs] at h; subst h; simp at hx
  | t :: ts, asl, h, x, hx => by
    simp only [HasTs] at h
    obtain ⟨a, as', rfl, h1, h2⟩ := h
    rcases List.mem_cons.1 hx with rfl | hx
    · exact h1.ok
    · exact h2.ok x hx
theorem VRs_app' {μ : Mu} {h : Hp} : ∀ {asl bs : List AV} {cs ds : List Value}, VRs μ h asl cs → VRs μ h bs ds → VRs μ h (asl ++ bs) (cs ++ ds)
  | [], bs, cs, ds, h1, h2 => by simp only [VRs] at h1; subst h1; exact h2
  | a :: asl, bs, cs, ds, h1, h2 => by
    simp only [VRs] at h1
    obtain ⟨v, vs, rfl, h3, h4⟩ := h1
    simp only [List.cons_append, VRs]
    exact ⟨v, _, rfl, h3, VRs_app' h4 h2⟩
section
variable {H : Type} {enc : TypeId × Value → H} {P : Program} {w : World} {base : Nat} {spare : Nat → Bool} {held : Bool}
def Opened (w : World) (ts : List Ty) (cs : List Value) : Prop := ∃ asl, HasTs ts asl ∧ VRs (mu0 w) [] asl cs ∧ ∀ u ∈ cs, u.oneCell' = true
theorem open_one {t : Ty} {u : Value} {a : AV} (h1 : HasT t a) (h2 : VR (mu0 w) [] a u) (h3 : u.oneCell' = true) : Opened w [t] [u] :=
  ⟨[a], by simp only [HasTs]; exact ⟨a, [], rfl, h1, rfl⟩, by simp only [VRs]; exact ⟨u, [], rfl, h2, rfl⟩, by simpa using h3⟩
theorem open_fs {f : TypeId → Option (List Ty)} {g : TypeId → List Value → Prop} {cs : List Value} (hg : ∀ t ts cs', f t = some ts → g t cs' → Opened w ts cs') : ∀ (l : List Field) (pos : Nat) (ts : List Ty), tyFs f P.cellsOf l pos = some ts →
    (∀ x ∈ l, g x.type ((cs.drop x.offset).take (P.cellsOf x.type))) → Opened w ts ((cs.drop pos).take ts.length)
  | [], pos, ts, h, _ => by
    simp only [tyFs, Option.some.injEq] at h
    subst h
    exact ⟨[], rfl, rfl, by simp⟩
  | x :: l, pos, ts, h, hx => by
    simp only [tyFs] at h
    split at h
    · rename_i a b h1 h2
      split at h
      · rename_i hc
        simp only [Option.some.injEq] at h
        subst h
        obtain ⟨h3, h4⟩ := hc
        obtain ⟨asl, p1, p2, p3⟩ := hg _ _ _ h1 (hx x (by simp))
        obtain ⟨bs, q1, q2, q3⟩ := open_fs hg l _ b h2 (fun y hy => hx y (by simp [hy]))
        have e : (cs.drop pos).take (a ++ b).length = (cs.drop x.offset).take (P.cellsOf x.type) ++ (cs.drop (pos + P.cellsOf x.type)).take b.length := by
          rw [List.length_append, h4, h3, ← List.drop_drop, List.take_add]
        rw [e]
        refine ⟨asl ++ bs, p1.app q1, VRs_app' p2 q2, ?_⟩
        intro u hu
        rcases List.mem_append.1 hu with hu | hu
        · exact p3 u hu
        · exact q3 u hu
      · simp at h
    · simp at h
theorem open_arr {ts : List Ty} {sz : Nat} {cs : List Value} : ∀ (n i0 : Nat), (∀ i, i < n → Opened w ts ((cs.drop ((i0 + i) * sz)).take sz)) → Opened w (List.replicate n ts).flatten ((cs.drop (i0 * sz)).take (n * sz))
  | 0, i0, _ => ⟨[], rfl, by simp [VRs], by simp⟩
  | n + 1, i0, h => by
    obtain ⟨asl, p1, p2, p3⟩ := h 0 (by omega)
    obtain ⟨bs, q1, q2, q3⟩ := open_arr n (i0 + 1) (fun i hi => by have := h (i + 1) (by omega); rwa [show i0 + (i + 1) = i0 + 1 + i by omega] at this)
    have e : (cs.drop (i0 * sz)).take ((n + 1) * sz) = (cs.drop (i0 * sz)).take sz ++ (cs.drop ((i0 + 1) * sz)).take (n * sz) := by
      rw [show (n + 1) * sz = sz + n * sz by rw [Nat.add_mul]; omega, show (i0 + 1) * sz = i0 * sz + sz by rw [Nat.add_mul]; omega, ← List.drop_drop, List.take_add]
    rw [e, List.replicate_succ, List.flatten_cons]
    refine ⟨asl ++ bs, p1.app q1, VRs_app' p2 q2, ?_⟩
    intro u hu
    rcases List.mem_append.1 hu with hu | hu
    · exact p3 u hu
    · exact q3 u hu
theorem open_es {ts : List Ty} {sz b : Nat} (hts : ts.length = sz) : ∀ (n o : Nat), (∀ i, i < n → ∃ cs, Opened w ts cs ∧ cs.length = sz ∧ ∀ j u, cs[j]? = some u → w.cell? ⟨b, o + i * sz + j, none⟩ = some u) →
    ∃ es vs, es.length = n ∧ (∀ e ∈ es, HasTs ts e) ∧ VRf (mu0 w) [] es vs ∧ ∀ j u, vs[j]? = some u → w.cell? ⟨b, o + j, none⟩ = some u ∧ u.oneCell' = true
  | 0, o, h => ⟨[], [], rfl, by simp, rfl, by simp⟩
  | n + 1, o, h => by
    obtain ⟨cs, ⟨asl, h1, h2, h3⟩, h4, h5⟩ := h 0 (by omega)
    obtain ⟨es, vs, k1, k2, k3, k4⟩ := open_es hts n (o + sz) (fun i hi => by
      obtain ⟨cs', q1, q2, q3⟩ := h (i + 1) (by omega)
      refine ⟨cs', q1, q2, fun j u hu => ?_⟩
      rw [← q3 j u hu]
      congr 2
      rw [Nat.add_mul]; omega)
    refine ⟨asl :: es, cs ++ vs, by simp [k1], ?_, ?_, ?_⟩
    · intro e he
      rcases List.mem_cons.1 he with rfl | he
      · exact h1
      · exact k2 e he
    · simp only [VRf]; exact ⟨cs, vs, rfl, h2, k3⟩
    · intro j u hj
      by_cases hlt : j < cs.length
      · rw [List.getElem?_append_left hlt] at hj
        have := h5 j u hj
        exact ⟨by simpa using this, h3 u (List.mem_of_getElem? hj)⟩
      · rw [List.getElem?_append_right (by omega)] at hj
        have := k4 _ _ hj
        rw [show o + sz + (j - cs.length) = o + j by omega] at this
        exact this
theorem cell_lt {a : Addr} {v : Value} (h : w.cell? a = some v) : a.block < w.heap.size := by
  rcases Nat.lt_or_ge a.block w.heap.size with h1 | h1
  · exact h1
  · have : w.heap[a.block]? = none := by simpa using h1
    simp [World.cell?, this] at h
theorem open_cells : ∀ (fuel n : Nat) (t : TypeId) (ts : List Ty) (cs : List Value) (x : DataW H × List MemPlace), tyOf P n t = some ts → DataW.trod enc P w base spare held fuel t cs = some x → Opened w ts cs
  | 0, n, t, ts, cs, x, _, h => by simp [DataW.trod] at h
  | fuel + 1, 0, t, ts, cs, x, h0, _ => by simp [tyOf] at h0
  | fuel + 1, n + 1, t, ts, cs, x, h0, h => by
    unfold tyOf at h0
    cases hu : P.underlying t with
    | none => rw [hu] at h0; simp at h0
    | some T =>
      rw [hu] at h0
      cases T with
      | bool =>
        simp only [Option.some.injEq] at h0
        subst h0
        obtain ⟨b, rfl, _⟩ := DataW.trod_bool hu h
        exact open_one (a := .s (.bool b)) (by simp [HasT]) (by simp [VR, gv]) rfl
      | int k =>
        simp only [Option.some.injEq] at h0
        subst h0
        obtain ⟨m, rfl, _, hw⟩ := DataW.trod_int hu h
        exact open_one (a := .s (.int k m)) (by simp [HasT, hw]) (by simp [VR, gv]) rfl
      | string =>
        simp only [Option.some.injEq] at h0
        subst h0
        obtain ⟨s, rfl, _, hs⟩ := DataW.trod_string hu h
        exact open_one (a := .s (.string s)) (by simp [HasT, hs]) (by simp [VR, gv]) rfl
      | slice e =>
        simp only at h0
        cases he : tyOf P n e with
        | none => rw [he] at h0; simp at h0
        | some l =>
          rw [he] at h0
          simp only at h0
          split at h0
          · rename_i hl
            simp only [Option.some.injEq] at h0
            subst h0
            rcases DataW.trod_slice hu h with ⟨rfl, _⟩ | ⟨a, len, cap, elems, rest, m, hm, rfl, _, hb, h1, h2, h3, h4, _, _⟩
            · refine open_one (a := .lst l.length true []) ?_ ?_ rfl
              · simp only [HasT]; exact ⟨true, [], rfl, fun _ => rfl, by simp, by simp⟩
              · simp only [VR]
                exact ⟨none, 0, rfl, by simp, by simp, rfl, fun _ => rfl, by simp, by simp⟩
            · have hm' : m = fuel := by omega
              subst hm'
              have cell : ∀ i, i < len → ∃ cs, Opened w l cs ∧ cs.length = P.cellsOf e ∧ ∀ j, j < P.cellsOf e → w.cell? ((a.add (i * P.cellsOf e)).add j) = cs[j]? := by
                intro i hi
                have hi' := h4 i hi
                rw [List.getElem?_eq_getElem (by omega), Option.bind_eq_some_iff] at hi'
                obtain ⟨cs, q1, q2⟩ := hi'
                have q3 := World.cells?_some q1
                exact ⟨cs, open_cells m n e l cs _ he q2, q3.2.1, q3.2.2⟩
              obtain ⟨b, off, spot⟩ := a
              have hsp : len ≠ 0 → spot = none := fun hn => by
                obtain ⟨cs, _, q2, q3⟩ := cell 0 (by omega)
                have q4 := q3 0 (by omega)
                rw [List.getElem?_eq_getElem (by omega)] at q4
                simpa [Addr.add] using World.cell?_spot q4
              by_cases hn : len = 0
              · subst hn
                refine open_one (a := .lst l.length false []) ?_ ?_ rfl
                · simp only [HasT]; exact ⟨false, [], rfl, fun _ => rfl, by simp, by simp⟩
                · simp only [VR]
                  exact ⟨_, cap, rfl, by simp, h2, rfl, by simp, by simp, by simp⟩
              · have hs := hsp hn
                subst hs
                obtain ⟨es, vs, k1, k2, k3, k4⟩ := open_es (w := w) (ts := l) (sz := P.cellsOf e) (b := b) hl.1 len off (fun i hi => by
                  obtain ⟨cs, q1, q2, q3⟩ := cell i hi
                  refine ⟨cs, q1, q2, fun j u hj => ?_⟩
                  have hjl := (List.getElem?_eq_some_iff.1 hj).1
                  have := q3 j (by omega)
                  rw [hj] at this
                  rw [← this, Go.WideShapes.add_plain, Go.WideShapes.add_plain])
                refine open_one (a := .lst l.length false es) ?_ ?_ rfl
                · simp only [HasT]; exact ⟨false, es, rfl, by simp, by omega, k2⟩
                · simp only [VR]
                  refine ⟨_, cap, by rw [k1], by omega, h2, rfl, by simp, fun e' he' => ⟨(k2 e' he').len, (k2 e' he').ok⟩, fun _ => ⟨b, off, vs, rfl, ?_, k3, k4⟩⟩
                  obtain ⟨cs, q1, q2, q3⟩ := cell 0 (by omega)
                  have q4 := q3 0 (by omega)
                  rw [List.getElem?_eq_getElem (by omega)] at q4
                  show b < w.heap.size
                  rw [Go.WideShapes.add_plain, Go.WideShapes.add_plain] at q4
                  exact cell_lt q4
          · simp at h0
      | struct fs =>
        simp only at h0
        cases he : tyFs (tyOf P n) P.cellsOf fs.toList 0 with
        | none => rw [he] at h0; simp at h0
        | some l =>
          rw [he] at h0
          simp only at h0
          split at h0
          · rename_i hl
            simp only [Option.some.injEq] at h0
            subst h0
            obtain ⟨xs, m, hm, _, h2, h3, h4⟩ := DataW.trod_struct hu h
            have hm' : m = fuel := by omega
            subst hm'
            have := open_fs (w := w) (P := P) (f := tyOf P n) (g := fun t cs' => ∃ y, DataW.trod enc P w base spare held m t cs' = some y) (cs := cs) (fun t ts cs' q1 ⟨y, q2⟩ => open_cells m n t ts cs' y q1 q2) fs.toList 0 l he (fun y hy => by
              obtain ⟨i, hi⟩ := List.getElem?_of_mem hy
              have hi2 : fs[i]? = some y := by simpa using hi
              have := h4 i y hi2
              have hlt : i < xs.length := by rw [h3]; exact (Array.getElem?_eq_some_iff.1 hi2).1
              rw [List.getElem?_eq_getElem hlt] at this
              exact ⟨_, this⟩)
            rw [List.drop_zero, hl, ← h2, List.take_length] at this
            exact this
          · simp at h0
      | array k e =>
        simp only at h0
        cases he : tyOf P n e with
        | none => rw [he] at h0; simp at h0
        | some l =>
          rw [he] at h0
          simp only at h0
          split at h0
          · rename_i hl
            simp only [Option.some.injEq] at h0
            subst h0
            obtain ⟨xs, m, hm, _, h2, h3, h4⟩ := DataW.trod_array hu h
            have hm' : m = fuel := by omega
            subst hm'
            have := open_arr (w := w) (ts := l) (sz := P.cellsOf e) (cs := cs) k 0 (fun i hi => by
              have h5 := h4 i hi
              rw [List.getElem?_eq_getElem (by omega)] at h5
              have h6 := open_cells m n e l _ _ he h5
              rwa [Nat.zero_add])
            rw [Nat.zero_mul, List.drop_zero, hl.2, ← h2, List.take_length] at this
            exact this
          · simp at h0
      | _ => simp at h0
theorem open_cell {t : TypeId} {v : Value} {d : DataW H} {ps : List MemPlace} {n : Nat} {ty : Ty} (hv : v.cells = #[v]) (ht : tyOf P n t = some [ty]) (hd : DataW.Trod enc P w base spare held t v d ps) : ∃ a, HasT ty a ∧ VR (mu0 w) [] a v := by
  obtain ⟨fuel, hf⟩ := hd
  rw [hv] at hf
  obtain ⟨asl, h1, h2, _⟩ := open_cells fuel n t [ty] _ _ ht hf
  simp only [HasTs] at h1
  obtain ⟨a, as', rfl, h1, rfl⟩ := h1
  simp only [VRs] at h2
  obtain ⟨v', vs', h3, h4, _⟩ := h2
  simp at h3
  exact ⟨a, h1, by rw [h3.1]; exact h4⟩
end
theorem has_list {α : Type} {ts : List Ty} {f : α → List AV} (hf : ∀ cs, HasTs ts cs → ∃ x, cs = f x) {a : AV} (h : HasT (.sl ts) a) : ∃ (l : List α) (b : Bool), a = .lst ts.length (b && l.isEmpty) (l.map f) := by
  simp only [HasT] at h
  obtain ⟨nil, es, rfl, hn, hm, he⟩ := h
  have : ∃ l : List α, es = l.map f := by
    clear hn hm
    induction es with
    | nil => exact ⟨[], rfl⟩
    | cons e es ih =>
      obtain ⟨x, hx⟩ := hf e (he e (by simp))
      obtain ⟨l, hl⟩ := ih (fun e' h' => he e' (by simp [h']))
      exact ⟨x :: l, by simp [hx, hl]⟩
  obtain ⟨l, rfl⟩ := this
  refine ⟨l, nil, ?_⟩
  cases nil with
  | false => rfl
  | true =>
    have : l = [] := by simpa using hn rfl
    subst this; rfl
end Go.AM


namespace Go.AM
open Go.Proofs
set_option linter.unusedVariables false
set_option linter.unusedSimpArgs false
set_option linter.constructorNameAsVariable false
set_option maxRecDepth 20000
attribute [local congr] arithK_cg eqK_cg notK_cg convK_cg pickK_cg buildK_cg ldK_cg nilK_cg sliceK_cg faK_cg fldK_cg iaK_cg iaA_cg lookK_cg capK_cg exK_cg lenK_cg minK_cg maxK_cg effK_cg callK_cg callVK_cg effD_cg gopD_cg grpK_cg condK_cg cond_cg
theorem has_Msg {cs : List AV} (h : HasTs [.int .i64, .int .i64, .int .i64, .int .i64, .int .i64, .int .i64, .int .i64] cs) : ∃ p : Msg, cs = encM p := by
  simp only [HasTs, HasT] at h
  obtain ⟨_, _, rfl, ⟨a, rfl, _⟩, _, _, rfl, ⟨b, rfl, _⟩, _, _, rfl, ⟨c, rfl, _⟩, _, _, rfl, ⟨d, rfl, _⟩, _, _, rfl, ⟨e, rfl, _⟩, _, _, rfl, ⟨f, rfl, _⟩, _, _, rfl, ⟨g, rfl, _⟩, rfl⟩ := h
  exact ⟨⟨a, b, c, d, e, f, g⟩, rfl⟩
theorem has_Msgs {a : AV} (h : HasT (.sl [.int .i64, .int .i64, .int .i64, .int .i64, .int .i64, .int .i64, .int .i64]) a) : ∃ (l : List Msg) (b : Bool), a = SL 7 encM b l := has_list (fun _ h => has_Msg h) h
theorem few40_bd {n : Nat} (h : few40 n = true) : n < 1000 := by simp [few40] at h; omega
theorem xd0 {β : Type} (r : Docu × Int) (k : Go.AM.K β) : exK (tupD r) 0 k = k (.agg (encDo r.1)) := rfl
theorem xd1 {β : Type} (r : Docu × Int) (k : Go.AM.K β) : exK (tupD r) 1 k = k (I r.2) := rfl
theorem xt0 {β : Type} (a b : AV) (k : Go.AM.K β) : exK (.tup [a, b]) 0 k = k a := rfl
theorem xt1 {β : Type} (a b : AV) (k : Go.AM.K β) : exK (.tup [a, b]) 1 k = k b := rfl
theorem folds_law (l : List Msg) (b : Bool) (mv to : Int) : F_law40_DocumentFolds [SL 7 encM b l, I mv, I to] [] = some (B true, []) := by
  refine F_law40_DocumentFolds_run (a0 := SL 7 encM b l) (a1 := I mv) (a2 := I to) rfl ?_ []
  simp only [nrm, nrmC]
  have ff := F_ref40_Few_val l (b && l.isEmpty)
  have fw := F_law40_awake_val
  simp -implicitDefEqProofs only [f_law40_DocumentFolds, t_law40_DocumentFolds_10, t_law40_DocumentFolds_11, callK_F, fw, ff, notK_bool, Bool.not_true, condK_bool, Bool.false_eq_true, if_false, SL]
  cases hf : few40 l.length with
  | false => rfl
  | true =>
    have hl := few40_bd hf
    have fc := F_slices_Clone_Message_val l b (by omega)
    simp only [SL] at fc
    have f1 := F_document_Of_val l b mv (by omega)
    have f2 := F_ref40_Of_val l (b && l.isEmpty) mv hl
    have f3 := F_document_All_val l b hl
    have f4 := F_ref40_All_val l (b && l.isEmpty) hl
    have f5 := F_document_Open_val l b to hl
    have f6 := F_ref40_Open_val l (b && l.isEmpty) to hl
    have f7 := fun p q h => same_D (allS l) (allS l) p q (by have := allS_len l; omega) h
    have e7 : decide (allS l = allS l) = true := by simp
    rw [e7] at f7
    have x0 : ∀ k : Go.AM.K AV, exK (allV l) 0 k = k (.lst 7 (allS l).isEmpty ((allS l).map encDo)) := fun k => rfl
    have x1 : ∀ k : Go.AM.K AV, exK (allV l) 1 k = k (I (errM l)) := fun k => rfl
    have y0 : ∀ k : Go.AM.K AV, exK (allR l) 0 k = k (.lst 7 (errM l != 0) ((allS l).map encDo)) := fun k => rfl
    have y1 : ∀ k : Go.AM.K AV, exK (allR l) 1 k = k (I (errM l)) := fun k => rfl
    have b0 : ∀ k : AV → Hp → Option AV, effK (boxE 7 (.agg zM) ([] : Hp).length) [] k = k (.ptr 0 0 0 1) [.arr 7 [zM] true false] := fun k => bx7_0 k
    have s0 : ∀ (d : Docu) (k : AV → Hp → Option AV), effK (stE 7 (.ptr 0 0 0 1) (.agg (encDo d)) [.arr 7 [zM] true false]) [.arr 7 [zM] true false] k = k .u [.arr 7 [encDo d] true false] := fun d k => ew7_0 k
    have b1 : ∀ (d : Docu) (k : AV → Hp → Option AV), effK (boxE 7 (.agg zM) ([.arr 7 [encDo d] true false] : Hp).length) [.arr 7 [encDo d] true false] k = k (.ptr 1 0 0 1) [.arr 7 [encDo d] true false, .arr 7 [zM] true false] := fun d k => bx7_1 k
    have s1 : ∀ (d e : Docu) (k : AV → Hp → Option AV), effK (stE 7 (.ptr 1 0 0 1) (.agg (encDo e)) [.arr 7 [encDo d] true false, .arr 7 [zM] true false]) [.arr 7 [encDo d] true false, .arr 7 [zM] true false] k = k .u [.arr 7 [encDo d] true false, .arr 7 [encDo e] true false] := fun d e k => ew7_1 k
    have l1 : ∀ (a b : Docu) (k : Go.AM.K AV), ldK 7 true (.ptr 0 0 0 1) [.arr 7 [encDo a] true false, .arr 7 [encDo b] true false] k = k (.agg (encDo a)) := fun a b k => lw7_0 k
    have l2 : ∀ (a b : Docu) (k : Go.AM.K AV), ldK 7 true (.ptr 1 0 0 1) [.arr 7 [encDo a] true false, .arr 7 [encDo b] true false] k = k (.agg (encDo b)) := fun a b k => lw7_1 k
    have eD : ∀ (x y : Docu) (h : Hp) (k : Go.AM.K AV), eqK Try.prog false 35 (.agg (encDo x)) (.agg (encDo y)) h k = k (B (x == y)) := fun x y h k => by rw [eqs_Do, Bool.false_xor]
    simp -implicitDefEqProofs only [Bool.not_true, Bool.false_eq_true, if_false, t_law40_DocumentFolds_13, t_law40_DocumentFolds_18, t_law40_DocumentFolds_19, t_law40_DocumentFolds_20, t_law40_DocumentFolds_21, t_law40_DocumentFolds_22, t_law40_DocumentFolds_23, t_law40_DocumentFolds_24, callK_F, fc, f1, f2, f3, f4, f5, f6, f7, xd0, xd1, xt0, xt1, x0, x1, y0, y1, b0, s0, b1, s1, l1, l2, eD, beq_self_eq_true, eqK_int, Bool.false_xor, grpK_tt]
    rfl
end Go.AM

