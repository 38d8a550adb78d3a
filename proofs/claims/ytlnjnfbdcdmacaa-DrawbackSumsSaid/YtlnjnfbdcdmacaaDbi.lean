import Derived.Test.YtlnjnfbdcdmacaaDbh
/- drawback: Overdue. -/
namespace Go.AM
open Go.Proofs
set_option linter.unusedVariables false
set_option linter.unusedSimpArgs false
set_option linter.constructorNameAsVariable false
set_option maxRecDepth 20000
/-- A number put behind the others. -/
theorem OutG.snoc {β : Type} {g : List AObj} {v : AV} {outs : List Int} (O : OutG g v outs) (a b c : AObj) (z : Int) (ho : outs.length < 1000) : ∃ v' g', (∀ k : AV → Hp → Option β,
    effK (appE 1 8 v (.sl 1 (g.length + 3) 0 1 1 true) (a :: b :: c :: (g ++ [.arr 1 [encI z] true false])) (g.length + 1 + 3)) (a :: b :: c :: (g ++ [.arr 1 [encI z] true false])) k = k v' (a :: b :: c :: g')) ∧ OutG g' v' (outs ++ [z]) := by
  rcases O with ⟨rfl, rfl⟩ | ⟨hne, k, rfl, hk⟩
  · refine ⟨.sl 1 (g.length + 1 + 3) 0 1 1 false, g ++ [.arr 1 [encI z] true false, .arr 1 [encI z] true false], fun k => ?_, .inr ⟨by simp, g.length + 1, rfl, by simp⟩⟩
    simp [appE, readSl, encI]
  · have hkl := (List.getElem?_eq_some_iff.1 hk).1
    have hle : (outs.length + 1) * 8 ≤ 140737488355328 := by omega
    have hk' := fun x : List AObj => get_app (g := x) hk
    have hst := fun (o : AObj) (x : List AObj) => List.set_append_left (s := g) (t := x) k o hkl
    refine ⟨.sl 1 (k + 3) 0 (outs ++ [z]).length (outs ++ [z]).length false, g.set k (.arr 1 ((outs ++ [z]).map encI) true false) ++ [.arr 1 [encI z] true false], fun k' => ?_, .inr ⟨by simp, k, rfl, by
      rw [List.getElem?_append_left (by simpa using hkl)]; simp [hkl]⟩⟩
    simp [appE, readSl, encI, hk', hle, hst]
def overS (cl : Int → Int) (limit day : Int) (l : List Paid) : List Int := (l.filter fun p => decide (cl p.id < p.alc) && decide (limit < day - p.day)).map (·.id)
section
variable {β : Type} {P : Program} {T : Tab} {D : DTab} {N : Nat} {K : AV → Hp → Option β} {x1 : AV → Hp → Option β}
theorem overdue_L2 {kp kc : List (Value × AV)} {cl : Int → Int} {last lim limit day : Int} {l : List Paid} {b : Bool} (C : ClaimedAt kc cl) (hl : l.length ≤ 64) (hp : ∀ p ∈ l, badP p = false) (hd : 0 ≤ day ∧ day ≤ 100000) : ∀ (n : Nat) (pre post : List Paid) (v : AV) (g : List AObj), l = pre ++ post → post.length < n → OutG g v (overS cl limit day pre) →
    ∃ v' g', f_drawback_Overdue_L2 Try.prog T D N x1 n (I limit) (I day) (.ptr 2 0 0 1) v (.lst 5 b (l.map encP)) (I l.length) (I pre.length) (fileH kp kc last lim g) = x1 v' (fileH kp kc last lim g') ∧ OutG g' v' (overS cl limit day l) := by
  intro n
  induction n with
  | zero => intro pre post v g _ h; omega
  | succ n ih =>
    intro pre post v g hp' hn O
    have e0 : ∀ s, f_drawback_Overdue_L2 Try.prog T D N x1 (n + 1) (I limit) (I day) (.ptr 2 0 0 1) v (.lst 5 b (l.map encP)) (I l.length) (I pre.length) s = f_drawback_Overdue_b2 Try.prog T D N (f_drawback_Overdue_L2 Try.prog T D N x1 n) x1 (I limit) (I day) (.ptr 2 0 0 1) v (.lst 5 b (l.map encP)) (I l.length) (I pre.length) s := fun s => rfl
    rw [e0]
    cases post with
    | nil =>
      have : l = pre := by simpa using hp'
      subst this
      exact ⟨v, g, by simp [f_drawback_Overdue_b2], O⟩
    | cons p post =>
      have hi : pre.length < l.length := by rw [hp']; simp
      have hx : l[pre.length]? = some p := by rw [hp']; simp
      have hlt : ((pre.length : Int) < (l.length : Int)) := by omega
      have hw : IntKind.i64.wrap ((pre.length : Int) + 1) = (((pre ++ [p]).length : Nat) : Int) := by rw [wrap64 (by omega) (by omega)]; simp
      have hpb := okP_bd (hp p (by rw [hp']; simp))
      have hwd : IntKind.i64.wrap (day - p.day) = day - p.day := wrap64 (by omega) (by omega)
      have L2 := fun (h : Hp) (hid : h[1]? = some (.map kc)) (k : Go.AM.K β) => look_claimed C hid p.id k
      have hol : (overS cl limit day pre).length ≤ pre.length := by
        unfold overS; rw [List.length_map]; exact List.length_filter_le _ _
      have O' : OutG (g ++ [.arr 5 [encP p] true false]) v (overS cl limit day pre) := O.app _
      obtain ⟨v2, g2, k1, k2⟩ := O'.snoc (β := β) (.map kp) (.map kc) (fileO last lim) p.id (by omega)
      by_cases hc : cl p.id < p.alc ∧ limit < day - p.day
      · have e1 : overS cl limit day (pre ++ [p]) = overS cl limit day pre ++ [p.id] := by simp [overS, hc]
        rw [← e1] at k2
        obtain ⟨v', g', h1, h2⟩ := ih (pre ++ [p]) post v2 g2 (by simpa using hp') (by simpa using hn) k2
        refine ⟨v', g', ?_, h2⟩
        rw [← h1]
        simp [encP, encI] at k1
        simp [f_drawback_Overdue_b2, hlt, hx, encP, boxE]
        rw [L2 _ (by simp)]
        simp [hwd, hc, bsE, fillS, f_drawback_Overdue_j4, f_drawback_Overdue_j3, k1, hw]
      · have e1 : overS cl limit day (pre ++ [p]) = overS cl limit day pre := by
          have : (decide (cl p.id < p.alc) && decide (limit < day - p.day)) = false := by
            rw [Bool.and_eq_false_iff, decide_eq_false_iff_not, decide_eq_false_iff_not]; omega
          simp [overS, this]
        rw [← e1] at O'
        obtain ⟨v', g', h1, h2⟩ := ih (pre ++ [p]) post v (g ++ [.arr 5 [encP p] true false]) (by simpa using hp') (by simpa using hn) O'
        refine ⟨v', g', ?_, h2⟩
        rw [← h1]
        have hc' : (decide (cl p.id < p.alc) && decide (limit < day - p.day)) = false := by
          rw [Bool.and_eq_false_iff, decide_eq_false_iff_not, decide_eq_false_iff_not]; omega
        simp [f_drawback_Overdue_b2, hlt, hx, encP, boxE]
        rw [L2 _ (by simp)]
        simp only [grpK_and, arithK_lss, arithK_gtr, condK_bool]
        simp [hwd, f_drawback_Overdue_j4, f_drawback_Overdue_j3, hw]
        intro q1 q2
        exact absurd ⟨q1, q2⟩ hc
end
def overdueS (l : List Paid) (claims : List Claim) (limit day : Int) : List Int × Int := match carryS l claims limit with
  | .inl (j, e) => ([], e)
  | .inr r => if win day 0 100000 then (overS (claimedL claims) limit day l, 0) else ([], 2)
theorem F_drawback_Overdue_val (l : List Paid) (claims : List Claim) (b1 b2 : Bool) (limit day : Int) (h : Hp) : F_drawback_Overdue [.lst 5 b1 (l.map encP), .lst 3 b2 (claims.map encC), I limit, I day] h =
    some (.tup [SL 1 encI (overdueS l claims limit day).1.isEmpty (overdueS l claims limit day).1, I (overdueS l claims limit day).2], h) := by
  have hc := carry_val l claims b1 b2 limit
  unfold overdueS
  revert hc
  cases hS : carryS l claims limit with
  | inl je =>
    rintro ⟨h1, H, h2⟩
    refine (F_drawback_Overdue_run (v := .tup [nilS, I je.2]) rfl ?_ h).trans rfl
    simp [f_drawback_Overdue, h2, h1]
  | inr r =>
    rintro ⟨v, kp, kc, g, h1, O, A, C, hk, -⟩
    obtain ⟨c2, W, hr1, hr2, hr3⟩ := carryS_within hS
    by_cases hd : win day 0 100000 = true
    · have hd2 : 0 ≤ day ∧ day ≤ 100000 := by simpa [win] using hd
      obtain ⟨v', g', k1, k2⟩ := overdue_L2 (T := t_drawback_Overdue) (D := d_drawback_Overdue) (N := NN) (x1 := fun w42_14 h => f_drawback_Overdue_j1 Try.prog t_drawback_Overdue d_drawback_Overdue NN (fun v g => cvt false g v) w42_14 h) (kp := kp) (last := lastL claims) (lim := limit) (limit := limit) (b := b1) C (checkP_ok hk).1 c2 hd2 NN [] l nilS g rfl (by have := NN_ge; have := (checkP_ok hk).1; omega) (.inl ⟨rfl, rfl⟩)
      obtain ⟨q1, q2⟩ := k2.cvt false (.map kp) (.map kc) (fileO (lastL claims) limit)
      obtain ⟨w, hw⟩ := Option.isSome_iff_exists.1 q2
      rw [hw] at q1
      refine (F_drawback_Overdue_run (v := .tup [w, I 0]) rfl ?_ h).trans ?_
      · simp [f_drawback_Overdue, h1, F_drawback_within_val, hd]
        refine Eq.trans ?_ (k1.trans ?_)
        · simp
        · simp [f_drawback_Overdue_j1, hw]
      · simp only [Option.getD_some] at q1
        rw [if_pos hd]
        show some (AV.tup [nrm (.l 1) w, I 0], h) = _
        rw [q1]
    · have hd' : win day 0 100000 = false := by simpa using hd
      refine (F_drawback_Overdue_run (v := .tup [nilS, I 2]) rfl ?_ h).trans ?_
      · simp [f_drawback_Overdue, h1, F_drawback_within_val, hd']
      · rw [if_neg hd]; rfl
end Go.AM
