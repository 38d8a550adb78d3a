import Derived.Test.YtoamikbdfedngaaGreatG6
set_option linter.unusedSectionVars false
set_option linter.unusedVariables false
set_option linter.unusedSimpArgs false
set_option linter.constructorNameAsVariable false
namespace Go.AM
open Go.Proofs
set_option linter.unusedVariables false
set_option linter.unusedSimpArgs false
set_option linter.constructorNameAsVariable false
set_option maxRecDepth 20000
attribute [local congr] arithK_cg eqK_cg notK_cg convK_cg pickK_cg buildK_cg ldK_cg nilK_cg sliceK_cg faK_cg fldK_cg iaK_cg iaA_cg lookK_cg capK_cg exK_cg lenK_cg minK_cg maxK_cg effK_cg callK_cg callVK_cg effD_cg gopD_cg grpK_cg condK_cg cond_cg
section
variable {β : Type}
set_option maxHeartbeats 8000000 in
theorem ref_Messages_L2 {T : Tab} {D : DTab} {N : Nat} {x0 : AV → Hp → Option β} (l : List Leg) (b : Bool) (mv : Int) (hl : l.length < 1000) :
    ∀ (n : Nat) (pre post : List Leg) (v : AV) (c : Int) (h : Hp) (out : List Msg), l = pre ++ post → post.length < n → Grm 7 encM h v out → 0 ≤ c ∧ c ≤ pre.length → out.length ≤ 2 * pre.length →
    ∃ v' h', f_ref45_Messages_L2 Tryz.prog T D N x0 n (.lst 5 b (l.map encL)) (I mv) v (I c) (I pre.length) h = x0 v' h' ∧ Grm 7 encM h' v' (out ++ msgL mv c post) := by
  intro n
  induction n with
  | zero => intro pre post v c h out _ h2; omega
  | succ n ih =>
    intro pre post v c h out hc hn G hcb ho
    show ∃ v' h', f_ref45_Messages_b2 Tryz.prog T D N (f_ref45_Messages_L2 Tryz.prog T D N x0 n) x0 _ _ _ _ _ h = _ ∧ _
    have ln : ∀ k : Go.AM.K β, lenK (.lst 5 b (l.map encL)) k = k (I l.length) := fun k => by simp
    cases post with
    | nil =>
      have : l = pre := by simpa using hc
      subst this
      exact ⟨v, h, by simp [f_ref45_Messages_b2], by simpa [msgL] using G⟩
    | cons x post =>
      have hi : pre.length < l.length := by rw [hc]; simp
      have hci : l[pre.length]? = some x := by rw [hc]; simp
      have hlt : ((pre.length : Int) < (l.length : Int)) := by omega
      have hw : IntKind.i64.wrap ((pre.length : Int) + 1) = (((pre ++ [x]).length : Nat) : Int) := by rw [wrap64 (by omega) (by omega)]; simp
      have wc : IntKind.i64.wrap (c + 1) = c + 1 := wrap64 (by omega) (by omega)
      have ic : ∀ k : Go.AM.K β, iaK 5 (.lst 5 b (l.map encL)) (I pre.length) k = k (.ep (encL x) 0) := fun k => iaK_at pre.length rfl hci k
      have step := fun v c h out => ih (pre ++ [x]) post v c h out (by simpa using hc) (by simpa using hn)
      have hpl : ((pre ++ [x]).length : Int) = (pre.length : Int) + 1 := by simp
      have hpl2 : (pre ++ [x]).length = pre.length + 1 := by simp
      simp only [f_ref45_Messages_b2, ln, arithK_lss, hlt, decide_true, condK_bool, if_true, ic]
      rw [msgL]
      clear hc ih hci ic
      obtain ⟨dy, kd, pl, to, al⟩ := x
      dsimp only
      simp only [encL] at *
      generalize l.map encL = L at *
      have hvl : ∀ k, idOf v = some k → k < h.length := fun k e => by
        obtain ⟨k', q1, q2⟩ := G.lt
        rw [e] at q1; cases q1; exact q2
      by_cases q1 : kd = 1
      · subst q1
        obtain ⟨v', h3, k1, k2, -, -, -⟩ := (G.app [.arr 5 [[I dy, I 1, I pl, I to, I al]] true false, .arr 7 [[I mv, I 1, I 0, I dy, I pl, I to, I al]] true false]).apps β (by_ := 56) (m := h.length + 1) (zs := [(⟨mv, 1, 0, dy, pl, to, al⟩ : Msg)]) (b := true) (by simp) (by simp [encM]) (fun e => by have := hvl _ e; omega) (by intro y _; rfl) (by simp; omega)
        obtain ⟨a1, a2, a3, a4⟩ := step v' c h3 (out ++ [⟨mv, 1, 0, dy, pl, to, al⟩]) k2 (by omega) (by rw [List.length_append]; simp; omega)
        refine ⟨a1, a2, ?_, by simpa using a4⟩
        rw [← a3]
        simp at k1
        simp (maxSteps := 10000000) [boxE, stE, ap, buildK, fillA, bsE, fillS, f_ref45_Messages_j5, f_ref45_Messages_j4, f_ref45_Messages_j3, hw, k1]
      · have q1' : (kd == 1) = false := by simpa using q1
        by_cases q4 : kd = 4
        · subst q4
          obtain ⟨v', h3, k1, k2, -, -, -⟩ := (G.app [.arr 5 [[I dy, I 4, I pl, I to, I al]] true false, .arr 7 [[I mv, I 2, I (c + 1), I dy, I 0, I to, I 0]] true false]).apps β (by_ := 56) (m := h.length + 1) (zs := [(⟨mv, 2, c + 1, dy, 0, to, 0⟩ : Msg)]) (b := true) (by simp) (by simp [encM]) (fun e => by have := hvl _ e; omega) (by intro y _; rfl) (by simp; omega)
          obtain ⟨a1, a2, a3, a4⟩ := step v' (c + 1) h3 (out ++ [⟨mv, 2, c + 1, dy, 0, to, 0⟩]) k2 (by omega) (by rw [List.length_append]; simp; omega)
          refine ⟨a1, a2, ?_, by simpa using a4⟩
          rw [← a3]
          simp at k1
          simp (maxSteps := 10000000) [boxE, stE, ap, buildK, fillA, bsE, fillS, f_ref45_Messages_j5, f_ref45_Messages_j4, f_ref45_Messages_j3, hw, wc, k1]
        · have q4' : (kd == 4) = false := by simpa using q4
          by_cases q7 : kd = 7
          · subst q7
            obtain ⟨v', h3, k1, k2, -, -, -⟩ := (G.app [.arr 5 [[I dy, I 7, I pl, I to, I al]] true false, .arr 7 [[I mv, I 3, I 0, I dy, I 0, I 0, I al], [I mv, I 5, I 0, I dy, I 0, I 0, I 0]] true false]).apps β (by_ := 56) (m := h.length + 1) (zs := [(⟨mv, 3, 0, dy, 0, 0, al⟩ : Msg), ⟨mv, 5, 0, dy, 0, 0, 0⟩]) (b := true) (by simp) (by simp [encM]) (fun e => by have := hvl _ e; omega) (by intro y _; rfl) (by simp; omega)
            obtain ⟨a1, a2, a3, a4⟩ := step v' c h3 (out ++ [⟨mv, 3, 0, dy, 0, 0, al⟩, ⟨mv, 5, 0, dy, 0, 0, 0⟩]) k2 (by omega) (by rw [List.length_append]; simp; omega)
            refine ⟨a1, a2, ?_, by simpa using a4⟩
            rw [← a3]
            simp at k1
            simp (maxSteps := 10000000) [boxE, stE, ap, buildK, fillA, bsE, fillS, f_ref45_Messages_j5, f_ref45_Messages_j4, f_ref45_Messages_j3, hw, k1]
          · have q7' : (kd == 7) = false := by simpa using q7
            obtain ⟨a1, a2, a3, a4⟩ := step v c (h ++ [.arr 5 [[I dy, I kd, I pl, I to, I al]] true false]) out (by simpa using G.app _) (by omega) (by omega)
            refine ⟨a1, a2, ?_, by simpa [q1, q4, q7] using a4⟩
            rw [← a3]
            simp [boxE, stE, ap, q1', q4', q7', f_ref45_Messages_j5, f_ref45_Messages_j4, f_ref45_Messages_j3, hw]
theorem ref_Days_L7 {P : Program} {T : Tab} {D : DTab} {N : Nat} {x2 : AV → AV → AV → AV → AV → Hp → Option β} {v9 : AV} (l : List Leg) (b : Bool) (e : Int) (hl : l.length < 1000) (h : Hp) (pre : List Leg) (x : Leg) :
    ∀ (n : Nat) (mid suf : List Leg), l = pre ++ x :: mid ++ suf → mid.length < n →
    f_ref45_Days_L7 Tryz.prog T D N x2 n (.lst 5 b (l.map encL)) (I e) v9 (I pre.length) (I (onR e suf)) (I ((pre.length : Int) + mid.length)) h = x2 (.lst 5 b (l.map encL)) (I e) v9 (I pre.length) (I (onR e (mid ++ suf))) h := by
  intro n
  induction n with
  | zero => intro mid suf _ h2; omega
  | succ n ih =>
    intro mid suf hc hn
    show f_ref45_Days_b7 Tryz.prog T D N (f_ref45_Days_L7 Tryz.prog T D N x2 n) x2 _ _ _ _ _ _ h = _
    rcases List.eq_nil_or_concat mid with rfl | ⟨mid', y, hm⟩
    · simp [f_ref45_Days_b7]
    · have hm : mid = mid' ++ [y] := by rw [hm]; simp
      subst hm
      have hlen : (mid' ++ [y]).length = mid'.length + 1 := by simp
      have hll : l.length = pre.length + 1 + (mid'.length + 1) + suf.length := by rw [hc]; simp; omega
      have hgt : (pre.length : Int) < (pre.length : Int) + ((mid' ++ [y]).length : Nat) := by rw [hlen]; omega
      have hyi : l[pre.length + (mid' ++ [y]).length]? = some y := by
        rw [hc, hlen, List.append_assoc, List.getElem?_append_right (by omega)]
        simp
      have iy : ∀ k : Go.AM.K β, iaK 5 (.lst 5 b (l.map encL)) (I ((pre.length : Int) + ((mid' ++ [y]).length : Nat))) k = k (.ep (encL y) 0) := fun k => iaK_at (pre.length + (mid' ++ [y]).length) (by omega) hyi k
      have ld1 : ∀ k : Go.AM.K β, ldK 1 false (.ep (encL y) (0 + 1)) h k = k (I y.kind) := fun k => by simp [encL]
      have ld0 : ∀ k : Go.AM.K β, ldK 1 false (.ep (encL y) (0 + 0)) h k = k (I y.day) := fun k => by simp [encL]
      have hw : IntKind.i64.wrap ((pre.length : Int) + ((mid' ++ [y]).length : Nat) - 1) = (pre.length : Int) + (mid'.length : Nat) := by rw [hlen, wrap64 (by omega) (by omega)]; omega
      have step := ih mid' (y :: suf) (by rw [hc]; simp) (by rw [hlen] at hn; omega)
      have eo : onR e (y :: suf) = if y.kind = 3 then min e y.day else onR e suf := by
        unfold onR
        by_cases q : y.kind = 3
        · rw [List.find?_cons_of_pos (by simpa using q), if_pos q]
        · rw [List.find?_cons_of_neg (by simpa using q), if_neg q]
      rw [eo] at step
      have ea : mid' ++ [y] ++ suf = mid' ++ y :: suf := by simp
      rw [ea, ← step]
      simp only [f_ref45_Days_b7, arithK_gtr, hgt, decide_true, condK_bool, if_true, iy, faK_ep, ld1, ld0, eqK_int, Bool.false_xor]
      by_cases q : y.kind = 3
      · have q' : (y.kind == 3) = true := by simpa using q
        simp only [q, beq_self_eq_true, if_true, minK_int, f_ref45_Days_j9, f_ref45_Days_j8, arithK_sub, hw]
      · have q' : (y.kind == 3) = false := by simpa using q
        simp only [q', Bool.false_eq_true, if_false, q, f_ref45_Days_j9, f_ref45_Days_j8, arithK_sub, hw]
theorem onR_bd {e : Int} {l : List Leg} (he : 0 ≤ e ∧ e ≤ 100000) (hd : ∀ x ∈ l, 0 ≤ x.day ∧ x.day ≤ 100000) : 0 ≤ onR e l ∧ onR e l ≤ 100000 := by
  unfold onR
  split
  · rename_i r hr
    have := hd r (List.mem_of_find?_eq_some hr)
    omega
  · exact he
theorem ref_Days_L3 {P : Program} {T : Tab} {D : DTab} {N : Nat} (hN : 10000 < N) {x0 : AV → AV → AV → Hp → Option β} (l : List Leg) (b : Bool) (e : Int) (hl : l.length < 1000) (he : 0 ≤ e ∧ e ≤ 100000) (hd : ∀ x ∈ l, 0 ≤ x.day ∧ x.day ≤ 100000) (h : Hp) :
    ∀ (n : Nat) (pre post : List Leg) (hh : Int), l = pre ++ post → post.length < n → 0 ≤ hh ∧ hh ≤ 100000 * pre.length →
    f_ref45_Days_L3 Tryz.prog T D N x0 n (.lst 5 b (l.map encL)) (I e) (I hh) (I pre.length) h = x0 (.lst 5 b (l.map encL)) (I e) (I (hh + haltR e post)) h := by
  intro n
  induction n with
  | zero => intro pre post hh _ h2; omega
  | succ n ih =>
    intro pre post hh hc hn hb
    show f_ref45_Days_b3 Tryz.prog T D N (f_ref45_Days_L3 Tryz.prog T D N x0 n) x0 _ _ _ _ h = _
    have ln : ∀ k : Go.AM.K β, lenK (.lst 5 b (l.map encL)) k = k (I l.length) := fun k => by simp
    cases post with
    | nil =>
      have : l = pre := by simpa using hc
      subst this
      simp [f_ref45_Days_b3, haltR]
    | cons x post =>
      have hi : pre.length < l.length := by rw [hc]; simp
      have hci : l[pre.length]? = some x := by rw [hc]; simp
      have hlt : ((pre.length : Int) < (l.length : Int)) := by omega
      have hw : IntKind.i64.wrap ((pre.length : Int) + 1) = (((pre ++ [x]).length : Nat) : Int) := by rw [wrap64 (by omega) (by omega)]; simp
      have ic : ∀ k : Go.AM.K β, iaK 5 (.lst 5 b (l.map encL)) (I pre.length) k = k (.ep (encL x) 0) := fun k => iaK_at pre.length rfl hci k
      have ld1 : ∀ k : Go.AM.K β, ldK 1 false (.ep (encL x) (0 + 1)) h k = k (I x.kind) := fun k => by simp [encL]
      have ld0 : ∀ k : Go.AM.K β, ldK 1 false (.ep (encL x) (0 + 0)) h k = k (I x.day) := fun k => by simp [encL]
      have step := fun hh => ih (pre ++ [x]) post hh (by simpa using hc) (by simpa using hn)
      have hpl : ((pre ++ [x]).length : Int) = (pre.length : Int) + 1 := by simp
      have hxd := hd x (by rw [hc]; simp)
      have hob := onR_bd he (l := post) fun y hy => hd y (by rw [hc]; simp [hy])
      have hlen : (l.length : Int) = (pre.length : Int) + 1 + post.length := by rw [hc]; simp; omega
      have w1 : IntKind.i64.wrap ((l.length : Int) - 1) = (pre.length : Int) + post.length := by rw [wrap64 (by omega) (by omega)]; omega
      have w2 : IntKind.i64.wrap (onR e post - x.day) = onR e post - x.day := wrap64 (by omega) (by omega)
      have w3 : IntKind.i64.wrap (hh + max 0 (onR e post - x.day)) = hh + max 0 (onR e post - x.day) := wrap64 (by omega) (by omega)
      simp only [f_ref45_Days_b3, ln, arithK_lss, hlt, decide_true, condK_bool, if_true, ic, faK_ep, ld1, eqK_int, Bool.true_xor]
      rw [haltR]
      by_cases q : x.kind = 2
      · have q' : (x.kind == 2) = true := by simpa using q
        have L7 := ref_Days_L7 (P := P) (T := T) (D := D) (N := N) (x2 := fun w45_0 w45_7 w45_9 w45_10 w45_11 h => f_ref45_Days_j6 Tryz.prog T D N (f_ref45_Days_L3 Tryz.prog T D N x0 n) x0 w45_0 w45_7 w45_9 w45_10 w45_11 h) (v9 := I hh) l b e hl h pre x N post [] (by simpa using hc) (by omega)
        have eon : onR e [] = e := rfl
        rw [eon, List.append_nil] at L7
        simp only [q', Bool.not_true, Bool.false_eq_true, if_false, if_pos q, arithK_sub, w1, L7]
        simp only [f_ref45_Days_j6, ic, faK_ep, ld0, arithK_sub, w2, maxK_int, arithK_add, w3, f_ref45_Days_j5, f_ref45_Days_j4, hw]
        rw [step _ (by omega), Int.add_assoc]
      · have q' : (x.kind == 2) = false := by simpa using q
        simp only [q', Bool.not_false, if_true, if_neg q, f_ref45_Days_j5, f_ref45_Days_j4, arithK_add, hw]
        rw [step _ (by omega)]
        simp
end
theorem F_ref45_Messages_val (l : List Leg) (b : Bool) (mv : Int) (hl : l.length < 1000) (h : Hp) : F_ref45_Messages [.lst 5 b (l.map encL), I mv] h = some (.tup [.lst 7 ((msgS l mv).2 != 0) ((msgS l mv).1.map encM), I (msgS l mv).2], h) := by
  have base : ∀ w v, f_ref45_Messages Tryz.prog t_ref45_Messages d_ref45_Messages NN (fun v g => cvt false g v) (.lst 5 b (l.map encL)) (I mv) [] = some w → nrmR [.l 7, .o] w = v → F_ref45_Messages [.lst 5 b (l.map encL), I mv] h = some (v, h) := fun w v e1 e2 => by
    rw [← e2]
    exact F_ref45_Messages_run (a0 := .lst 5 b (l.map encL)) (a1 := I mv) rfl e1 h
  have fr := F_ref45_right_val l b (by omega)
  unfold msgS
  cases hr : okS l with
  | false =>
    rw [hr] at fr
    refine base (.tup [nilS, I 1]) _ ?_ rfl
    generalize l.map encL = L at *
    simp [f_ref45_Messages, fr]
  | true =>
    rw [hr] at fr
    rw [if_neg (by simp)]
    cases hw : win mv 1 1073741824 with
    | false =>
      have hw' : (decide (mv < 1) || decide (1073741824 < mv)) = true := by simp [win] at hw ⊢; omega
      refine base (.tup [nilS, I 2]) _ ?_ rfl
      generalize l.map encL = L at *
      simp only [Bool.or_eq_true, decide_eq_true_eq] at hw'
      rcases hw' with q | q <;> simp [f_ref45_Messages, fr, q]
    | true =>
      have w1 : ¬ mv < 1 := by simp [win] at hw; omega
      have w2 : ¬ 1073741824 < mv := by simp [win] at hw; omega
      rw [if_neg (by simp)]
      obtain ⟨v, h', k1, G⟩ := ref_Messages_L2 (T := t_ref45_Messages) (D := d_ref45_Messages) (N := NN) (x0 := fun w62_6 h => f_ref45_Messages_j1 Tryz.prog t_ref45_Messages d_ref45_Messages NN (fun v g => cvt false g v) w62_6 h) l b mv hl NN [] l (.sl 7 0 0 0 0 true) 0 [.arr 7 [] true false] [] rfl (by have := NN_ge; omega) ⟨0, true, rfl, rfl, fun _ => rfl⟩ (by simp) (by simp)
      rw [List.nil_append] at G
      have gl := fun k => G.len (β := AV) k
      have red : f_ref45_Messages Tryz.prog t_ref45_Messages d_ref45_Messages NN (fun v g => cvt false g v) (.lst 5 b (l.map encL)) (I mv) [] = f_ref45_Messages_j1 Tryz.prog t_ref45_Messages d_ref45_Messages NN (fun v g => cvt false g v) v h' := by
        rw [← k1]
        clear base k1
        generalize l.map encL = L at *
        simp [f_ref45_Messages, fr, w1, w2, bsE, fillS, ap]
      by_cases h64 : 64 < (msgL mv 0 l).length
      · have h64' : (64 : Int) < ((msgL mv 0 l).length : Int) := by omega
        rw [if_pos h64]
        refine base (.tup [nilS, I 8]) _ (red.trans ?_) rfl
        simp [f_ref45_Messages_j1, gl, h64']
      · have h64' : ¬ (64 : Int) < ((msgL mv 0 l).length : Int) := by omega
        rw [if_neg h64]
        have p1 := G.cvt (fun x st => by cases st <;> simp [encM, isS]) false
        refine base (.tup [.lst 7 false ((msgL mv 0 l).map encM), I 0]) _ (red.trans ?_) rfl
        simp [f_ref45_Messages_j1, gl, h64', p1]
theorem F_ref45_Days_val (l : List Leg) (b : Bool) (until_ : Int) (hl : l.length < 1000) (h : Hp) : F_ref45_Days [.lst 5 b (l.map encL), I until_] h = some (.tup [I (daysS l until_).1, I (daysS l until_).2.1, I (daysS l until_).2.2], h) := by
  refine F_ref45_Days_run (a0 := .lst 5 b (l.map encL)) (a1 := I until_) rfl ?_ h
  simp only [nrm, nrmC]
  have fr := F_ref45_right_val l b (by omega)
  unfold daysS
  have ln : ∀ k : Go.AM.K AV, lenK (.lst 5 b (l.map encL)) k = k (I l.length) := fun k => by simp
  cases hr : okS l with
  | false =>
    rw [hr] at fr
    generalize l.map encL = L at *
    simp [f_ref45_Days, fr]
  | true =>
    rw [hr] at fr
    cases hw : win until_ 0 100000
    · generalize l.map encL = L at *
      simp [f_ref45_Days, fr, F_ref31_Day_val', hw]
    · have hu : 0 ≤ until_ ∧ until_ ≤ 100000 := by simpa [win] using hw
      cases hll : l with
      | nil =>
        rw [hll] at fr
        simp at fr
        simp [f_ref45_Days, fr, F_ref31_Day_val', hw]
      | cons c tl =>
        have hc0 : l[0]? = some c := by rw [hll]; rfl
        have hz : ((l.length : Int) == 0) = false := by rw [hll]; simp; omega
        obtain ⟨d, hd⟩ : ∃ d, l.getLast? = some d := by
          cases hx : l.getLast? with
          | none => rw [List.getLast?_eq_none_iff] at hx; rw [hx] at hll; simp at hll
          | some d => exact ⟨d, rfl⟩
        have hdi : l[l.length - 1]? = some d := by rw [← hd, List.getLast?_eq_getElem?]
        have hl0 : l.length ≠ 0 := by rw [hll]; simp
        have i0 : ∀ (k : Go.AM.K AV), iaK 5 (.lst 5 b (l.map encL)) (I 0) k = k (.ep (encL c) 0) := fun k => iaK_at 0 rfl hc0 k
        have i1 : ∀ (k : Go.AM.K AV), iaK 5 (.lst 5 b (l.map encL)) (I ((l.length : Int) - 1)) k = k (.ep (encL d) 0) := fun k => iaK_at (l.length - 1) (by omega) hdi k
        have wl : IntKind.i64.wrap ((l.length : Int) - 1) = (l.length : Int) - 1 := wrap64 (by omega) (by omega)
        obtain ⟨m1, m2⟩ := okS_ok hr
        have hds := okL_days l _ _ _ m2
        have hdd : ∀ x ∈ l, 0 ≤ x.day ∧ x.day ≤ 100000 := fun x hx => (hds.1 x hx).2
        have hcd := hdd c (by rw [hll]; simp)
        have hddd := hdd d (List.mem_of_getLast? hd)
        simp only [Bool.true_eq_false, if_false]
        rw [← hll]
        by_cases hdc : until_ < c.day
        · rw [if_pos hdc]
          simp only [encL] at i0
          generalize l.map encL = L at *
          generalize (l.length : Int) = m at *
          simp [f_ref45_Days, fr, F_ref31_Day_val', hw, ln, hz, i0, hdc]
        · rw [if_neg hdc]
          have key : ∀ (e : Int) (h : Hp), 0 ≤ e ∧ e ≤ 100000 → f_ref45_Days_j1 Tryz.prog t_ref45_Days d_ref45_Days NN (fun v g => cvt false g v) (.lst 5 b (l.map encL)) (I e) h = some (.tup [I (e - c.day), I (haltR e l), I 0]) := fun e h he => by
            have L3 := ref_Days_L3 (P := Tryz.prog) (T := t_ref45_Days) (D := d_ref45_Days) (N := NN) (by have := NN_ge; omega) (x0 := fun w46_0 w46_7 w46_9 h => f_ref45_Days_j2 Tryz.prog t_ref45_Days d_ref45_Days NN (fun v g => cvt false g v) w46_0 w46_7 w46_9 h) l b e hl he hdd h NN [] l 0 rfl (by have := NN_ge; omega) (by simp)
            have wd : IntKind.i64.wrap (e - c.day) = e - c.day := wrap64 (by omega) (by omega)
            refine Eq.trans ?_ (L3.trans ?_)
            · simp [f_ref45_Days_j1]
            · simp only [encL] at i0
              generalize l.map encL = L at *
              simp [f_ref45_Days_j2, i0, wd]
          have he : endE l until_ = if d.kind = 7 then min until_ d.day else until_ := by unfold endE; rw [hd]
          rw [he]
          have k0 := fun h => key until_ h hu
          have k7 := fun h => key (min until_ d.day) h (by omega)
          clear key hd hdi hds hdd hll hc0
          obtain ⟨dy, kd, pl, to, al⟩ := d
          simp only [encL] at i0 i1
          dsimp only at *
          by_cases q : kd = 7
          · subst q
            rw [if_pos rfl, ← k7 [.arr 5 [[I dy, I 7, I pl, I to, I al]] true false]]
            generalize l.map encL = L at *
            generalize (l.length : Int) = m at *
            simp [f_ref45_Days, fr, F_ref31_Day_val', hw, ln, hz, i0, i1, hdc, wl, boxE, stE, ap]
          · have q' : (kd == 7) = false := by simpa using q
            rw [if_neg q, ← k0 [.arr 5 [[I dy, I kd, I pl, I to, I al]] true false]]
            generalize l.map encL = L at *
            generalize (l.length : Int) = m at *
            simp [f_ref45_Days, fr, F_ref31_Day_val', hw, ln, hz, i0, i1, hdc, wl, boxE, stE, ap, q']
theorem F_ref32_Of_val (e f a o : Int) (h1 : 0 ≤ e ∧ e ≤ 10737418240000) (h2 : 0 ≤ f ∧ f ≤ 10737418240000) (h3 : 0 ≤ a ∧ a ≤ 10737418240000) (h4 : 0 ≤ o ∧ o ≤ 10737418240000) (h : Hp) : F_ref32_Of [I e, I f, I a, I o] h = some (.agg (encO (lossL e f a o)), h) := by
  refine F_ref32_Of_run rfl ?_ h
  unfold lossL
  by_cases hc : e < f
  · have w : IntKind.i64.wrap (f - e) = f - e := wrap64 (by omega) (by omega)
    rw [if_pos hc]
    simp [f_ref32_Of, boxE, hc, w, buildK, fillA, stE, ap, encO]
  · have w : IntKind.i64.wrap (e - f) = e - f := wrap64 (by omega) (by omega)
    have e1 : min (e - f) a = min a (e - f) := Int.min_comm ..
    have e2 : min (e - f - min a (e - f)) o = min o (e - f - min a (e - f)) := Int.min_comm ..
    have w2 : IntKind.i64.wrap (e - f - min a (e - f)) = e - f - min a (e - f) := wrap64 (by omega) (by omega)
    have w3 : IntKind.i64.wrap (e - f - min a (e - f) - min o (e - f - min a (e - f))) = e - f - min a (e - f) - min o (e - f - min a (e - f)) := wrap64 (by omega) (by omega)
    rw [if_neg hc]
    simp [f_ref32_Of, boxE, hc, w, e1, w2, e2, w3, buildK, fillA, stE, ap, encO]
theorem F_ref45_Claim_val (l : List Leg) (t : List Allow) (b1 b2 : Bool) (hl : l.length < 1000000) (h : Hp) : F_ref45_Claim [.lst 5 b1 (l.map encL), .lst 4 b2 (t.map encA)] h = some (.tup [.agg (encO (claimS l t).1), I (claimS l t).2], h) := by
  refine F_ref45_Claim_run rfl ?_ h
  have fr := F_ref45_Run_val l b1 hl
  have fc := F_ref31_Right_val t b2
  have fg := F_ref45_right_val l b1 hl
  unfold claimS
  cases hr : okS l with
  | false =>
    obtain ⟨g1, g2⟩ := runS_err hr
    have g2' : ((runS l).2.2 == 0) = false := by simpa using g2
    simp only [tupR, g1, encJ, zeroJ] at fr
    rw [if_pos (.inl rfl)]
    rw [hr] at fg
    simp [f_ref45_Claim, boxE, stE, ap, fr, fc, fg, g2', buildK, fillA, encO, zeroO]
  | true =>
    rw [hr] at fg
    have hrun := okS_run hr
    have hinv := okL_inv l _ _ _ invZ (okS_ok hr).2
    rw [hrun] at fr ⊢
    simp only [tupR] at fr
    cases hc : rightA t with
    | false =>
      rw [hc] at fc
      rw [if_pos (.inr rfl)]
      simp only [encJ] at fr
      simp [f_ref45_Claim, boxE, stE, ap, fr, fc, fg, buildK, fillA, encO, zeroO]
    | true =>
      rw [hc] at fc
      rw [if_neg (by simp)]
      cases he : (l.foldl actL zeroJ).endd with
      | false =>
        simp only [encJ, he] at fr
        simp [f_ref45_Claim, boxE, stE, ap, fr, fc, fg, buildK, fillA, encO, zeroO]
      | true =>
        cases hll : l with
        | nil => rw [hll] at he; simp [zeroJ] at he
        | cons c tl =>
          rw [← hll]
          have hl0 : l.length ≠ 0 := by rw [hll]; simp
          have hc0 : l[0]? = some c := by rw [hll]; rfl
          have hhd : l.head? = some c := by rw [hll]; rfl
          obtain ⟨d, hd⟩ : ∃ d, l.getLast? = some d := by
            cases hx : l.getLast? with
            | none => rw [List.getLast?_eq_none_iff] at hx; rw [hx] at hll; simp at hll
            | some d => exact ⟨d, rfl⟩
          have hdi : l[l.length - 1]? = some d := by rw [← hd, List.getLast?_eq_getElem?]
          rw [hhd, hd]
          clear hll hhd hd
          obtain ⟨s1, s2, s3, s4, s5, s6, s7, s8⟩ := hinv
          have s7' := s7 he
          generalize l.foldl actL zeroJ = j at *
          obtain ⟨dep, spl, lost, arr, tra, frm, jto, halt, endd⟩ := j
          dsimp only at *
          subst he
          have w1 : IntKind.i64.wrap (dep - spl) = dep - spl := wrap64 (by omega) (by omega)
          have w2 : IntKind.i64.wrap ((l.length : Int) - 1) = (l.length : Int) - 1 := wrap64 (by omega) (by omega)
          have i0 : ∀ (k : Go.AM.K AV), iaK 5 (.lst 5 b1 (l.map encL)) (I 0) k = k (.ep (encL c) 0) := fun k => iaK_at 0 rfl hc0 k
          have i1 : ∀ (k : Go.AM.K AV), iaK 5 (.lst 5 b1 (l.map encL)) (I ((l.length : Int) - 1)) k = k (.ep (encL d) 0) := fun k => iaK_at (l.length - 1) (by omega) hdi k
          have ln : ∀ k : Go.AM.K AV, lenK (.lst 5 b1 (l.map encL)) k = k (I l.length) := fun k => by simp
          have fa := F_ref31_Allowed_val t b2 9 (dep - spl) c.day d.day
          have ab := allowedS_bd (t := t) (cls := 9) (frm := c.day) (to := d.day) (show 0 ≤ dep - spl by omega)
          simp only [Option.map_some, Option.getD_some]
          generalize (allowedS t 9 (dep - spl) c.day d.day).1 = n at *
          generalize (allowedS t 9 (dep - spl) c.day d.day).2 = er at *
          have fl := F_ref32_Of_val (dep - spl) arr n 0 (by omega) (by omega) (by omega) (by omega)
          simp only [encL] at i0 i1
          simp only [encJ] at fr
          simp only [encO] at fl ⊢
          generalize l.map encL = L at *
          generalize (l.length : Int) = m at *
          simp [f_ref45_Claim, boxE, stE, ap, fr, fc, fg, w1, w2, i0, i1, ln, fa, fl]
end Go.AM


namespace Go.AM
open Go.Proofs
set_option linter.unusedVariables false
set_option linter.unusedSimpArgs false
set_option linter.constructorNameAsVariable false
set_option maxRecDepth 20000
attribute [local congr] arithK_cg eqK_cg notK_cg convK_cg pickK_cg buildK_cg ldK_cg nilK_cg sliceK_cg faK_cg fldK_cg iaK_cg iaA_cg lookK_cg capK_cg exK_cg lenK_cg minK_cg maxK_cg effK_cg callK_cg callVK_cg effD_cg gopD_cg grpK_cg condK_cg cond_cg
section
variable {β : Type}
theorem eq_Msg (x y : Msg) (neq : Bool) (h : Hp) (k : Go.AM.K β) : eqK Tryz.prog neq 67 (.agg (encM x)) (.agg (encM y)) h k = k (B (xor neq (x == y))) := by
  simp only [encM, eqs_67]
  have : (x == y) = ((x.mv == y.mv) && ((x.kind == y.kind) && ((x.num == y.num) && ((x.day == y.day) && ((x.frm == y.frm) && ((x.to == y.to) && ((x.alc == y.alc) && true))))))) := by
    obtain ⟨a, b, c, d, e1, e2, e3⟩ := x
    obtain ⟨a', b', c', d', f1, f2, f3⟩ := y
    rw [Bool.eq_iff_iff]
    simp [Msg.mk.injEq]
  rw [this]
theorem ref40_Same_L2 {T : Tab} {D : DTab} {N : Nat} {x0 : Hp → Option β} {xr : AV → Hp → Option β} (l m : List Msg) (b1 b2 : Bool) (hlm : l.length = m.length) (hl : l.length < 1000000) (h : Hp) : ∀ (n : Nat) (p1 s p2 t : List Msg), l = p1 ++ s → m = p2 ++ t → p1.length = p2.length → s.length < n →
    f_ref40_Same_L2 Tryz.prog T D N x0 xr n (.lst 7 b1 (l.map encM)) (.lst 7 b2 (m.map encM)) (I p1.length) h = if s = t then x0 h else xr (B false) h := by
  intro n
  induction n with
  | zero => intro p1 s p2 t _ _ _ h2; omega
  | succ n ih =>
    intro p1 s p2 t h1 h2 hp hn
    show f_ref40_Same_b2 Tryz.prog T D N (f_ref40_Same_L2 Tryz.prog T D N x0 xr n) x0 xr _ _ _ h = _
    have e1 := congrArg List.length h1
    have e2 := congrArg List.length h2
    rw [List.length_append] at e1 e2
    have ln : ∀ k : Go.AM.K β, lenK (.lst 7 b1 (l.map encM)) k = k (I l.length) := fun k => by simp
    cases s with
    | nil =>
      have : t = [] := List.eq_nil_of_length_eq_zero (by simp at e1; omega)
      subst this
      have : l = p1 := by simpa using h1
      subst this
      simp [f_ref40_Same_b2]
    | cons a s =>
      cases t with
      | nil => simp at e1 e2; omega
      | cons c t =>
        have ha : l[p1.length]? = some a := by rw [h1]; simp
        have hb : m[p1.length]? = some c := by rw [h2, hp]; simp
        have hlt : ((p1.length : Int) < (l.length : Int)) := by simp at e1; omega
        have hw : IntKind.i64.wrap ((p1.length : Int) + 1) = (((p1 ++ [a]).length : Nat) : Int) := by rw [wrap64 (by omega) (by omega)]; simp
        have ia : ∀ k : Go.AM.K β, iaK 7 (.lst 7 b1 (l.map encM)) (I p1.length) k = k (.ep (encM a) 0) := fun k => iaK_at p1.length rfl ha k
        have ib : ∀ k : Go.AM.K β, iaK 7 (.lst 7 b2 (m.map encM)) (I p1.length) k = k (.ep (encM c) 0) := fun k => iaK_at p1.length rfl hb k
        have ld : ∀ (x : Msg) (k : Go.AM.K β), ldK 7 true (.ep (encM x) 0) h k = k (.agg (encM x)) := fun x k => by simp [encM]
        have step := ih (p1 ++ [a]) s (p2 ++ [c]) t (by simpa using h1) (by simpa using h2) (by simp [hp]) (by simpa using hn)
        simp only [f_ref40_Same_b2, ln, arithK_lss, hlt, decide_true, condK_bool, if_true, ia, ib, ld, eq_Msg, Bool.true_xor, arithK_add, hw]
        by_cases q : a = c
        · subst q
          simp only [beq_self_eq_true, Bool.not_true, Bool.false_eq_true, if_false, List.cons.injEq, true_and]
          exact step
        · have q' : (a == c) = false := by simpa using q
          simp only [q', Bool.not_false, if_true]
          rw [if_neg (by simp [q])]
theorem F_ref40_Same_val (l m : List Msg) (b1 b2 : Bool) (hl : l.length < 1000000) (h : Hp) : F_ref40_Same [.lst 7 b1 (l.map encM), .lst 7 b2 (m.map encM)] h = some (B (decide (l = m)), h) := by
  refine F_ref40_Same_run rfl ?_ h
  have ln1 : ∀ k : Go.AM.K AV, lenK (.lst 7 b1 (l.map encM)) k = k (I l.length) := fun k => by simp
  have ln2 : ∀ k : Go.AM.K AV, lenK (.lst 7 b2 (m.map encM)) k = k (I m.length) := fun k => by simp
  by_cases hlm : l.length = m.length
  · have L := ref40_Same_L2 (N := NN) (T := t_ref40_Same) (D := d_ref40_Same) (x0 := fun h => f_ref40_Same_j1 Tryz.prog t_ref40_Same d_ref40_Same NN (fun v g => cvt false g v) h) (xr := fun w13_4 h => cvt false h w13_4) l m b1 b2 hlm hl [] NN [] l [] m rfl rfl rfl (by have := NN_ge; omega)
    refine Eq.trans ?_ (L.trans ?_)
    · generalize l.map encM = L1 at *
      generalize m.map encM = L2 at *
      simp [f_ref40_Same, ln1, ln2, hlm]
    · by_cases q : l = m
      · rw [if_pos q, decide_eq_true q]; rfl
      · rw [if_neg q, decide_eq_false q]; rfl
  · have q : l ≠ m := fun e => hlm (by rw [e])
    have hb : ((l.length : Int) == (m.length : Int)) = false := by simpa using (fun h : (l.length : Int) = m.length => hlm (by omega))
    rw [decide_eq_false q]
    generalize l.map encM = L1 at *
    generalize m.map encM = L2 at *
    simp [f_ref40_Same, ln1, ln2, hb]
end
def fewT (n : Nat) : Bool := decide (n ≤ 20) || decide (n = 129)
theorem has_Two {cs : List AV} (h : HasTs [.int .i64, .int .i64] cs) : ∃ p : Int × Int, cs = [I p.1, I p.2] := by
  simp only [HasTs, HasT] at h
  obtain ⟨_, _, rfl, ⟨a, rfl, _⟩, _, _, rfl, ⟨b, rfl, _⟩, rfl⟩ := h
  exact ⟨⟨a, b⟩, rfl⟩
theorem short_few (l : List Leg) (b : Bool) (hf : fewL l.length = false) (h : Hp) : F_law45_short [.lst 5 b (l.map encL)] h = some (B false, h) := by
  have ff := F_ref45_Few_val l b
  rw [hf] at ff
  refine F_law45_short_run (a0 := .lst 5 b (l.map encL)) rfl ?_ h
  simp only [nrm, nrmC]
  generalize l.map encL = L at *
  simp [f_law45_short, ff]
set_option maxHeartbeats 4000000 in
theorem tells_law (l : List Leg) (b : Bool) (t : List Allow) (b2 : Bool) (x : Int × Int) : F_law45_JourneyTells [SL 5 encL b l, SL 4 encA b2 t, .agg [I x.1, I x.2]] [] = some (B true, []) := by
  refine F_law45_JourneyTells_run (a0 := SL 5 encL b l) (a1 := SL 4 encA b2 t) (a2 := .agg [I x.1, I x.2]) rfl ?_ []
  simp only [nrm, nrmC, SL]
  obtain ⟨y, z⟩ := x
  dsimp only
  cases hf : fewL l.length with
  | false =>
    have fs := short_few l (b && l.isEmpty) hf
    generalize l.map encL = L at *
    generalize t.map encA = T at *
    simp [f_law45_JourneyTells, F_law45_awake_val, boxE, fs]
  | true =>
    have hl := fewL_bd hf
    obtain ⟨s, fs⟩ := F_law45_short_ex l (b && l.isEmpty) (by omega)
    have fa := F_ref31_Few_val t (b2 && t.isEmpty)
    change ∀ h, _ = some (B (fewT t.length), h) at fa
    cases hq : (!s || !fewT t.length) with
    | true =>
      generalize fewT t.length = fm at *
      generalize l.map encL = L at *
      generalize t.map encA = T at *
      cases s <;> cases fm <;> simp at hq <;> simp [f_law45_JourneyTells, F_law45_awake_val, boxE, fs, fa]
    | false =>
      simp only [Bool.or_eq_false_iff, Bool.not_eq_false'] at hq
      obtain ⟨rfl, hfa⟩ := hq
      have hla : t.length ≤ 129 := by simp [fewT] at hfa; omega
      rw [hfa] at fa
      have c0 := F_slices_Clone_Leg_val l b (by omega)
      have c1 := F_slices_Clone_Allowance_val t b2 (by omega)
      have g0 : ∀ h base, G_slices_Clone_Leg [SL 5 encL b l] h base = some (SL 5 encL b l, EF []) := fun h base => (closedXD_val (c0 h) base).trans (by simp [idss, ids])
      have d1 := F_journey_Days_val l (b && l.isEmpty) y (by omega)
      have g1 : ∀ h base, G_journey_Days [SL 5 encL b l, I y] h base = some (.tup [I (daysS l y).1, I (daysS l y).2.1, I (daysS l y).2.2], EF []) := fun h base => (closedXD_val (d1 h) base).trans (by simp [idss, ids])
      have d2 := F_ref45_Days_val l (b && l.isEmpty) y (by omega)
      have m1 := F_journey_Messages_val l (b && l.isEmpty) z (by omega)
      have g2 : ∀ h base, G_journey_Messages [SL 5 encL b l, I z] h base = some (.tup [.lst 7 (msgS l z).1.isEmpty ((msgS l z).1.map encM), I (msgS l z).2], EF []) := fun h base => (closedXD_val (m1 h) base).trans (by simp [idss, ids])
      have m2 := F_ref45_Messages_val l (b && l.isEmpty) z (by omega)
      have k1 := F_journey_Claim_val l t (b && l.isEmpty) (b2 && t.isEmpty) (by omega)
      have k2 := F_ref45_Claim_val l t (b && l.isEmpty) (b2 && t.isEmpty) (by omega)
      have bd : (msgS l z).1.length < 1000000 := by
        have := msgL_len z l 0
        unfold msgS
        split
        · simp
        · split
          · simp
          · split
            · simp
            · dsimp only; omega
      have s1 := F_ref40_Same_val (msgS l z).1 (msgS l z).1 (msgS l z).1.isEmpty ((msgS l z).2 != 0) bd
      simp only [SL] at c0 c1 g0 g1 g2
      clear bd d1 m1
      generalize msgS l z = ms at *
      generalize daysS l y = ds at *
      generalize claimS l t = cs at *
      obtain ⟨M, me⟩ := ms
      obtain ⟨dx, dy, de⟩ := ds
      obtain ⟨⟨e1, e2, e3, e4⟩, ce⟩ := cs
      dsimp only at *
      simp only [encO] at k1 k2
      generalize M.map encM = MM at *
      generalize M.isEmpty = z1 at *
      generalize (me != 0) = z2 at *
      generalize l.map encL = L at *
      generalize t.map encA = T at *
      simp (maxSteps := 10000000) [f_law45_JourneyTells, F_law45_awake_val, iaA, boxE, stE, ap, fs, fa, c0, c1, g0, g1, g2, d2, m2, k1, k2, s1, disjAll, disj2, idsOf, wrOf]
end Go.AM

