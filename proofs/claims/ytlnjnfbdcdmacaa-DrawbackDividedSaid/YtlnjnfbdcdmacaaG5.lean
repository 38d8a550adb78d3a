import Derived.Test.YtlnjnfbdcdmacaaG4
import Derived.Below
import Derived.ChangeOld
import Derived.Carry
import Derived.OpenShut
/- drawback: Left, Total, Overdue; Equal. -/
namespace Go.AM
open Go.Proofs
set_option linter.unusedVariables false
set_option linter.unusedSimpArgs false
set_option linter.constructorNameAsVariable false
set_option maxRecDepth 20000
theorem carryS_inr {l : List Paid} {claims : List Claim} {limit : Int} {r : List Int} (h : carryS l claims limit = .inr r) : (checkP l).2 = 0 ∧ win limit 0 100000 = true ∧ claims.length ≤ 64 ∧ runC l limit [] claims = .inr r := by
  unfold carryS at h
  split at h
  · simp at h
  · rename_i h1
    split at h
    · simp at h
    · rename_i h2
      split at h
      · simp at h
      · rename_i h3
        refine ⟨by simpa using h1, by simpa using h2, by omega, ?_⟩
        revert h
        cases runC l limit [] claims with
        | inl x => simp
        | inr x => intro h; simpa using h
theorem runC_inr {l : List Paid} {limit : Int} (hl : ∀ p ∈ l, badP p = false) : ∀ (cs ahead : List Claim) (r : List Int), Within l ahead → runC l limit ahead cs = .inr r → Within l (ahead ++ cs) ∧ r.length = cs.length ∧ ∀ x ∈ r, -128849018880000 ≤ x ∧ x ≤ 128849018880000
  | [], ahead, r, W, h => by
    simp only [runC, Sum.inr.injEq] at h
    subst h
    simpa using W
  | c :: cs, ahead, r, W, h => by
    simp only [runC] at h
    by_cases he : errC l limit ahead c = 0
    · rw [if_pos he] at h
      obtain ⟨p, hp, q1, q2, q3, -⟩ := err0 he
      have hbp := okP_bd (hl p (paidL_mem hp).1)
      have hwp := W _ _ hp
      have b1 := partOf_bd p (claimedL ahead c.paid + c.alc) (by omega) (by omega) (by omega)
      have b2 := partOf_bd p (claimedL ahead c.paid) (by omega) (by omega) (by omega)
      cases hr : runC l limit (ahead ++ [c]) cs with
      | inl e => rw [hr] at h; simp at h
      | inr r' =>
        rw [hr] at h
        simp only [Sum.inr.injEq] at h
        subst h
        obtain ⟨h1, h2, h3⟩ := runC_inr hl cs (ahead ++ [c]) r' (W.snoc he) hr
        refine ⟨by simpa using h1, by simp [h2], ?_⟩
        intro x hx
        rcases List.mem_cons.1 hx with rfl | hx
        · simp only [refundC, hp]; omega
        · exact h3 x hx
    · rw [if_neg he] at h; simp at h
theorem within_nil {l : List Paid} (hl : ∀ p ∈ l, badP p = false) : Within l [] := fun n p hp => by
  have := okP_bd (hl p (paidL_mem hp).1); simp [claimedL]; omega
theorem carryS_within {l : List Paid} {claims : List Claim} {limit : Int} {r : List Int} (h : carryS l claims limit = .inr r) : (∀ p ∈ l, badP p = false) ∧ Within l claims ∧ r.length = claims.length ∧ r.length ≤ 64 ∧ ∀ x ∈ r, -128849018880000 ≤ x ∧ x ≤ 128849018880000 := by
  obtain ⟨h1, h2, h3, h4⟩ := carryS_inr h
  obtain ⟨c1, c2, c3⟩ := checkP_ok h1
  obtain ⟨q1, q2, q3⟩ := runC_inr c2 claims [] r (within_nil c2) h4
  exact ⟨c2, by simpa using q1, q2, by omega, q3⟩
section
variable {β : Type} {P : Program} {T : Tab} {D : DTab} {N : Nat} {K : AV → Hp → Option β} {x0 : Hp → Option β} {xr : AV → Hp → Option β}
theorem equal_L2 (xs ys : List Int) (b1 b2 : Bool) (hl : xs.length = ys.length) (hb : xs.length < 1000000) (h : Hp) : ∀ (n i : Nat), i ≤ xs.length → xs.length - i < n →
    f_slices_Equal_int_L2 Try.prog T D N x0 xr n (.lst 1 b1 (xs.map encI)) (.lst 1 b2 (ys.map encI)) (I xs.length) (I i) h = if xs.drop i = ys.drop i then x0 h else xr (B false) h := by
  intro n
  induction n with
  | zero => intro i _ h1; omega
  | succ n ih =>
    intro i hi hn
    show f_slices_Equal_int_b2 Try.prog T D N (f_slices_Equal_int_L2 Try.prog T D N x0 xr n) x0 xr _ _ _ _ h = _
    by_cases hlt : i < xs.length
    · have hlt' : ((i : Int) < (xs.length : Int)) := by omega
      have e1 : xs[i]? = some xs[i] := List.getElem?_eq_getElem hlt
      have e2 : ys[i]? = some (ys[i]'(by omega)) := List.getElem?_eq_getElem (by omega)
      have hw : IntKind.i64.wrap ((i : Int) + 1) = ((i + 1 : Nat) : Int) := by rw [wrap64 (by omega) (by omega)]; omega
      have d1 : xs.drop i = xs[i] :: xs.drop (i + 1) := List.drop_eq_getElem_cons hlt
      have d2 : ys.drop i = ys[i]'(by omega) :: ys.drop (i + 1) := List.drop_eq_getElem_cons (by omega)
      have dd : (xs.drop i = ys.drop i) = (xs[i] = ys[i]'(by omega) ∧ xs.drop (i + 1) = ys.drop (i + 1)) := by rw [d1, d2]; simp only [List.cons.injEq]
      have := ih (i + 1) (by omega) (by omega)
      simp only [dd]
      generalize xs[i] = x at *
      generalize ys[i] = y at *
      by_cases he : x = y
      · simp [f_slices_Equal_int_b2, hlt', e1, e2, encI, hw, he]
        simpa [encI] using this
      · simp [f_slices_Equal_int_b2, hlt', e1, e2, encI, hw, he]
    · have hlt' : ¬ ((i : Int) < (xs.length : Int)) := by omega
      have : xs.drop i = ys.drop i := by rw [List.drop_eq_nil_of_le (by omega), List.drop_eq_nil_of_le (by omega)]
      simp [f_slices_Equal_int_b2, hlt', this]
end
theorem F_slices_Equal_int_val (xs ys : List Int) (b1 b2 : Bool) (hb : xs.length < 1000000) (hy : ys.length < 1000000) (h : Hp) : F_slices_Equal_int [.lst 1 b1 (xs.map encI), .lst 1 b2 (ys.map encI)] h = some (B (decide (xs = ys)), h) := by
  refine F_slices_Equal_int_run rfl ?_ h
  by_cases hl : xs.length = ys.length
  · have := equal_L2 (T := t_slices_Equal_int) (D := d_slices_Equal_int) (N := NN) (x0 := fun h => f_slices_Equal_int_j1 Try.prog t_slices_Equal_int d_slices_Equal_int NN (fun v g => cvt false g v) h) (xr := fun w13_4 h => cvt false h w13_4) xs ys b1 b2 hl hb [] NN 0 (by omega) (by have := NN_ge; omega)
    have e : f_slices_Equal_int Try.prog t_slices_Equal_int d_slices_Equal_int NN (fun v g => cvt false g v) (nrm (.l 1) (.lst 1 b1 (xs.map encI))) (nrm (.l 1) (.lst 1 b2 (ys.map encI))) [] = f_slices_Equal_int_L2 Try.prog t_slices_Equal_int d_slices_Equal_int NN (fun h => f_slices_Equal_int_j1 Try.prog t_slices_Equal_int d_slices_Equal_int NN (fun v g => cvt false g v) h) (fun w13_4 h => cvt false h w13_4) NN (.lst 1 b1 (xs.map encI)) (.lst 1 b2 (ys.map encI)) (I xs.length) (I 0) [] := by
      simp [f_slices_Equal_int, hl]
    refine e.trans (this.trans ?_)
    by_cases he : xs = ys <;> simp [he, f_slices_Equal_int_j1]
  · have hne : xs ≠ ys := by rintro rfl; exact hl rfl
    have hl' : ¬ ((xs.length : Int) = (ys.length : Int)) := by omega
    simp [f_slices_Equal_int, hl', hne, hl]
/-- Left: the alcohol, the duty, the error. -/
def leftS (l : List Paid) (claims : List Claim) (limit id : Int) : Int × Int × Int := match carryS l claims limit with
  | .inl (j, e) => (0, 0, e)
  | .inr r => match paidL l id with
    | some p => (p.alc - claimedL claims id, p.duty - partOf p (claimedL claims id), 0)
    | none => (0, 0, 7)
theorem F_drawback_Left_val (l : List Paid) (claims : List Claim) (b1 b2 : Bool) (limit id : Int) (h : Hp) : F_drawback_Left [.lst 5 b1 (l.map encP), .lst 3 b2 (claims.map encC), I limit, I id] h =
    some (.tup [I (leftS l claims limit id).1, I (leftS l claims limit id).2.1, I (leftS l claims limit id).2.2], h) := by
  have hc := carry_val l claims b1 b2 limit
  unfold leftS
  revert hc
  cases hS : carryS l claims limit with
  | inl je =>
    rintro ⟨h1, H, h2⟩
    refine (F_drawback_Left_run rfl ?_ h).trans rfl
    simp [f_drawback_Left, h2, h1]
  | inr r =>
    rintro ⟨v, kp, kc, g, h1, O, A, C, -⟩
    obtain ⟨c2, W, -⟩ := carryS_within hS
    have L := fun (h : Hp) (hid : h[0]? = some (.map kp)) (k : Go.AM.K AV) => look_paid A hid true id k
    have L2 := fun (h : Hp) (hid : h[1]? = some (.map kc)) (k : Go.AM.K AV) => look_claimed C hid id k
    cases hp : paidL l id with
    | none =>
      refine (F_drawback_Left_run rfl ?_ h).trans rfl
      simp [f_drawback_Left, h1]
      rw [L _ (by simp)]
      simp [hp, boxE]
    | some p =>
      have hb := okP_bd (c2 p (paidL_mem hp).1)
      have hw := W _ _ hp
      have q2 := partOf_bd p (claimedL claims id) (by omega) (by omega) (by omega)
      have w1 : IntKind.i64.wrap (p.alc - claimedL claims id) = p.alc - claimedL claims id := wrap64 (by omega) (by omega)
      have w2 : IntKind.i64.wrap (p.duty - partOf p (claimedL claims id)) = p.duty - partOf p (claimedL claims id) := wrap64 (by omega) (by omega)
      have gp := fun n h base => G_drawback_part_val p n h base
      simp only [encP] at gp
      refine (F_drawback_Left_run rfl ?_ h).trans rfl
      simp [f_drawback_Left, h1]
      rw [L _ (by simp)]
      simp [hp, boxE, encP]
      rw [L2 _ (by simp)]
      simp [effD_y, disjAll, disj2, wrOf, idsOf, callE_F, gp, w1, w2]
/-- Total: the sum, the error. -/
def totalS (l : List Paid) (claims : List Claim) (limit : Int) : Int × Int := match carryS l claims limit with
  | .inl (j, e) => (0, e)
  | .inr r => (r.sum, 0)
theorem sum_bd {B : Int} (hB : 0 ≤ B) : ∀ (r : List Int), (∀ x ∈ r, -B ≤ x ∧ x ≤ B) → -(B * r.length) ≤ r.sum ∧ r.sum ≤ B * r.length
  | [], _ => by simp
  | x :: r, h => by
    have h1 := h x (by simp)
    have h2 := sum_bd hB r (fun y hy => h y (by simp [hy]))
    have e : B * ((x :: r).length : Int) = B * r.length + B := by simp [Int.mul_add]
    rw [e, List.sum_cons]
    omega
section
variable {β : Type} {P : Program} {T : Tab} {D : DTab} {N : Nat} {K : AV → Hp → Option β} {x0 : AV → AV → Hp → Option β}
theorem total_L2 (r : List Int) (v e : AV) (g : Hp) (a b c : AObj) (O : OutG g v r) (hn : r.length ≤ 64) (hr : ∀ x ∈ r, -128849018880000 ≤ x ∧ x ≤ 128849018880000) : ∀ (n : Nat) (pre post : List Int), r = pre ++ post → post.length < n →
    f_drawback_Total_L2 Try.prog T D N x0 n e (I pre.sum) v (I r.length) (I pre.length) (a :: b :: c :: g) = x0 e (I r.sum) (a :: b :: c :: g) := by
  intro n
  induction n with
  | zero => intro pre post _ h; omega
  | succ n ih =>
    intro pre post hp hn'
    show f_drawback_Total_b2 Try.prog T D N (f_drawback_Total_L2 Try.prog T D N x0 n) x0 _ _ _ _ _ _ = _
    cases post with
    | nil =>
      have : r = pre := by simpa using hp
      subst this
      simp [f_drawback_Total_b2]
    | cons x post =>
      have hi : pre.length < r.length := by rw [hp]; simp
      have hx : r[pre.length]? = some x := by rw [hp]; simp
      have hlt : ((pre.length : Int) < (r.length : Int)) := by omega
      have hw : IntKind.i64.wrap ((pre.length : Int) + 1) = (((pre ++ [x]).length : Nat) : Int) := by rw [wrap64 (by omega) (by omega)]; simp
      have hxb := hr x (by rw [hp]; simp)
      have hpb := sum_bd (B := 128849018880000) (by omega) pre (fun y hy => hr y (by rw [hp]; simp [hy]))
      have hs : IntKind.i64.wrap (pre.sum + x) = (pre ++ [x]).sum := by rw [wrap64 (by omega) (by omega)]; simp
      have := ih (pre ++ [x]) post (by simpa using hp) (by simpa using hn')
      rcases O with ⟨h1, _⟩ | ⟨h1, k, rfl, h2⟩
      · rw [h1] at hi; simp at hi
      · rw [← this]
        have hia : ∀ (k' : Go.AM.K β), iaK 1 (.sl 1 (k + 3) 0 r.length r.length false) (I pre.length) k' = k' (.ptr (k + 3) pre.length 0 r.length) := fun k' => by
          rw [iaK_sl (by omega) (by omega)]; simp
        simp [f_drawback_Total_b2, hlt, hia, h2, hx, encI, hw, hs]
end
theorem F_drawback_Total_val (l : List Paid) (claims : List Claim) (b1 b2 : Bool) (limit : Int) (h : Hp) : F_drawback_Total [.lst 5 b1 (l.map encP), .lst 3 b2 (claims.map encC), I limit] h =
    some (.tup [I (totalS l claims limit).1, I (totalS l claims limit).2], h) := by
  have hc := carry_val l claims b1 b2 limit
  unfold totalS
  revert hc
  cases hS : carryS l claims limit with
  | inl je =>
    rintro ⟨h1, H, h2⟩
    refine (F_drawback_Total_run (v := .tup [I 0, I je.2]) rfl ?_ h).trans rfl
    obtain ⟨m, hm⟩ : ∃ m, NN = m + 1 := ⟨NN - 1, by have := NN_ge; omega⟩
    rw [hm]
    simp [f_drawback_Total, h2, f_drawback_Total_L2, f_drawback_Total_b2, f_drawback_Total_j1]
  | inr r =>
    rintro ⟨v, kp, kc, g, h1, O, A, C, -⟩
    obtain ⟨c2, W, hr1, hr2, hr3⟩ := carryS_within hS
    have hlen : ∀ (k : Go.AM.K AV), lenK v k = k (I r.length) := fun k => by
      rcases O with ⟨rfl, rfl⟩ | ⟨q1, k, rfl, q2⟩ <;> simp
    refine (F_drawback_Total_run (v := .tup [I r.sum, I 0]) rfl ?_ h).trans rfl
    have := total_L2 (T := t_drawback_Total) (D := d_drawback_Total) (N := NN) (x0 := fun w13_11 w13_12 h => f_drawback_Total_j1 Try.prog t_drawback_Total d_drawback_Total NN (fun v g => cvt false g v) w13_11 w13_12 h) r v (I 0) g (.map kp) (.map kc) (fileO (lastL claims) limit) O hr2 hr3 NN [] r rfl (by have := NN_ge; omega)
    simp [f_drawback_Total, h1, hlen]
    refine Eq.trans ?_ (this.trans ?_)
    · simp
    · simp [f_drawback_Total_j1]
end Go.AM

/- drawback: Overdue. -/
namespace Go.AM
open Go.Proofs
set_option linter.unusedVariables false
set_option linter.unusedSimpArgs false
set_option linter.constructorNameAsVariable false
set_option maxRecDepth 20000
/-- A number put behind the others. -/
theorem OutG.snoc {β : Type} {g : List AObj} {v : AV} {outs : List Int} (O : OutG g v outs) (a b c : AObj) (z : Int) (ho : outs.length < 1000) : ∃ v' g', (∀ k : AV → Hp → Option β,
    effK (appE 1 8 v (.sl 1 (g.length + 3) 0 1 1 true) (a :: b :: c :: (g ++ [.arr 1 [encI z] true false])) (g.length + 1 + 3)) (a :: b :: c :: (g ++ [.arr 1 [encI z] true false])) k = k v' (a :: b :: c :: g')) ∧ OutG g' v' (outs ++ [z]) := by
  rcases O with ⟨rfl, rfl⟩ | ⟨hne, k, rfl, hk⟩
  · refine ⟨.sl 1 (g.length + 1 + 3) 0 1 1 false, g ++ [.arr 1 [encI z] true false, .arr 1 [encI z] true false], fun k => ?_, .inr ⟨by simp, g.length + 1, rfl, by simp⟩⟩
    simp [appE, readSl, encI]
  · have hkl := (List.getElem?_eq_some_iff.1 hk).1
    have hle : (outs.length + 1) * 8 ≤ 140737488355328 := by omega
    have hk' := fun x : List AObj => get_app (g := x) hk
    have hst := fun (o : AObj) (x : List AObj) => List.set_append_left (s := g) (t := x) k o hkl
    refine ⟨.sl 1 (k + 3) 0 (outs ++ [z]).length (outs ++ [z]).length false, g.set k (.arr 1 ((outs ++ [z]).map encI) true false) ++ [.arr 1 [encI z] true false], fun k' => ?_, .inr ⟨by simp, k, rfl, by
      rw [List.getElem?_append_left (by simpa using hkl)]; simp [hkl]⟩⟩
    simp [appE, readSl, encI, hk', hle, hst]
def overS (cl : Int → Int) (limit day : Int) (l : List Paid) : List Int := (l.filter fun p => decide (cl p.id < p.alc) && decide (limit < day - p.day)).map (·.id)
section
variable {β : Type} {P : Program} {T : Tab} {D : DTab} {N : Nat} {K : AV → Hp → Option β} {x1 : AV → Hp → Option β}
theorem overdue_L2 {kp kc : List (Value × AV)} {cl : Int → Int} {last lim limit day : Int} {l : List Paid} {b : Bool} (C : ClaimedAt kc cl) (hl : l.length ≤ 64) (hp : ∀ p ∈ l, badP p = false) (hd : 0 ≤ day ∧ day ≤ 100000) : ∀ (n : Nat) (pre post : List Paid) (v : AV) (g : List AObj), l = pre ++ post → post.length < n → OutG g v (overS cl limit day pre) →
    ∃ v' g', f_drawback_Overdue_L2 Try.prog T D N x1 n (I limit) (I day) (.ptr 2 0 0 1) v (.lst 5 b (l.map encP)) (I l.length) (I pre.length) (fileH kp kc last lim g) = x1 v' (fileH kp kc last lim g') ∧ OutG g' v' (overS cl limit day l) := by
  intro n
  induction n with
  | zero => intro pre post v g _ h; omega
  | succ n ih =>
    intro pre post v g hp' hn O
    have e0 : ∀ s, f_drawback_Overdue_L2 Try.prog T D N x1 (n + 1) (I limit) (I day) (.ptr 2 0 0 1) v (.lst 5 b (l.map encP)) (I l.length) (I pre.length) s = f_drawback_Overdue_b2 Try.prog T D N (f_drawback_Overdue_L2 Try.prog T D N x1 n) x1 (I limit) (I day) (.ptr 2 0 0 1) v (.lst 5 b (l.map encP)) (I l.length) (I pre.length) s := fun s => rfl
    rw [e0]
    cases post with
    | nil =>
      have : l = pre := by simpa using hp'
      subst this
      exact ⟨v, g, by simp [f_drawback_Overdue_b2], O⟩
    | cons p post =>
      have hi : pre.length < l.length := by rw [hp']; simp
      have hx : l[pre.length]? = some p := by rw [hp']; simp
      have hlt : ((pre.length : Int) < (l.length : Int)) := by omega
      have hw : IntKind.i64.wrap ((pre.length : Int) + 1) = (((pre ++ [p]).length : Nat) : Int) := by rw [wrap64 (by omega) (by omega)]; simp
      have hpb := okP_bd (hp p (by rw [hp']; simp))
      have hwd : IntKind.i64.wrap (day - p.day) = day - p.day := wrap64 (by omega) (by omega)
      have L2 := fun (h : Hp) (hid : h[1]? = some (.map kc)) (k : Go.AM.K β) => look_claimed C hid p.id k
      have hol : (overS cl limit day pre).length ≤ pre.length := by
        unfold overS; rw [List.length_map]; exact List.length_filter_le _ _
      have O' : OutG (g ++ [.arr 5 [encP p] true false]) v (overS cl limit day pre) := O.app _
      obtain ⟨v2, g2, k1, k2⟩ := O'.snoc (β := β) (.map kp) (.map kc) (fileO last lim) p.id (by omega)
      by_cases hc : cl p.id < p.alc ∧ limit < day - p.day
      · have e1 : overS cl limit day (pre ++ [p]) = overS cl limit day pre ++ [p.id] := by simp [overS, hc]
        rw [← e1] at k2
        obtain ⟨v', g', h1, h2⟩ := ih (pre ++ [p]) post v2 g2 (by simpa using hp') (by simpa using hn) k2
        refine ⟨v', g', ?_, h2⟩
        rw [← h1]
        simp [encP, encI] at k1
        simp [f_drawback_Overdue_b2, hlt, hx, encP, boxE]
        rw [L2 _ (by simp)]
        simp [hwd, hc, bsE, fillS, f_drawback_Overdue_j4, f_drawback_Overdue_j3, k1, hw]
      · have e1 : overS cl limit day (pre ++ [p]) = overS cl limit day pre := by
          have : (decide (cl p.id < p.alc) && decide (limit < day - p.day)) = false := by
            rw [Bool.and_eq_false_iff, decide_eq_false_iff_not, decide_eq_false_iff_not]; omega
          simp [overS, this]
        rw [← e1] at O'
        obtain ⟨v', g', h1, h2⟩ := ih (pre ++ [p]) post v (g ++ [.arr 5 [encP p] true false]) (by simpa using hp') (by simpa using hn) O'
        refine ⟨v', g', ?_, h2⟩
        rw [← h1]
        have hc' : (decide (cl p.id < p.alc) && decide (limit < day - p.day)) = false := by
          rw [Bool.and_eq_false_iff, decide_eq_false_iff_not, decide_eq_false_iff_not]; omega
        simp [f_drawback_Overdue_b2, hlt, hx, encP, boxE]
        rw [L2 _ (by simp)]
        simp only [grpK_and, arithK_lss, arithK_gtr, condK_bool]
        simp [hwd, f_drawback_Overdue_j4, f_drawback_Overdue_j3, hw]
        intro q1 q2
        exact absurd ⟨q1, q2⟩ hc
end
def overdueS (l : List Paid) (claims : List Claim) (limit day : Int) : List Int × Int := match carryS l claims limit with
  | .inl (j, e) => ([], e)
  | .inr r => if win day 0 100000 then (overS (claimedL claims) limit day l, 0) else ([], 2)
theorem F_drawback_Overdue_val (l : List Paid) (claims : List Claim) (b1 b2 : Bool) (limit day : Int) (h : Hp) : F_drawback_Overdue [.lst 5 b1 (l.map encP), .lst 3 b2 (claims.map encC), I limit, I day] h =
    some (.tup [SL 1 encI (overdueS l claims limit day).1.isEmpty (overdueS l claims limit day).1, I (overdueS l claims limit day).2], h) := by
  have hc := carry_val l claims b1 b2 limit
  unfold overdueS
  revert hc
  cases hS : carryS l claims limit with
  | inl je =>
    rintro ⟨h1, H, h2⟩
    refine (F_drawback_Overdue_run (v := .tup [nilS, I je.2]) rfl ?_ h).trans rfl
    simp [f_drawback_Overdue, h2, h1]
  | inr r =>
    rintro ⟨v, kp, kc, g, h1, O, A, C, hk, -⟩
    obtain ⟨c2, W, hr1, hr2, hr3⟩ := carryS_within hS
    by_cases hd : win day 0 100000 = true
    · have hd2 : 0 ≤ day ∧ day ≤ 100000 := by simpa [win] using hd
      obtain ⟨v', g', k1, k2⟩ := overdue_L2 (T := t_drawback_Overdue) (D := d_drawback_Overdue) (N := NN) (x1 := fun w42_14 h => f_drawback_Overdue_j1 Try.prog t_drawback_Overdue d_drawback_Overdue NN (fun v g => cvt false g v) w42_14 h) (kp := kp) (last := lastL claims) (lim := limit) (limit := limit) (b := b1) C (checkP_ok hk).1 c2 hd2 NN [] l nilS g rfl (by have := NN_ge; have := (checkP_ok hk).1; omega) (.inl ⟨rfl, rfl⟩)
      obtain ⟨q1, q2⟩ := k2.cvt false (.map kp) (.map kc) (fileO (lastL claims) limit)
      obtain ⟨w, hw⟩ := Option.isSome_iff_exists.1 q2
      rw [hw] at q1
      refine (F_drawback_Overdue_run (v := .tup [w, I 0]) rfl ?_ h).trans ?_
      · simp [f_drawback_Overdue, h1, F_drawback_within_val, hd]
        refine Eq.trans ?_ (k1.trans ?_)
        · simp
        · simp [f_drawback_Overdue_j1, hw]
      · simp only [Option.getD_some] at q1
        rw [if_pos hd]
        show some (AV.tup [nrm (.l 1) w, I 0], h) = _
        rw [q1]
    · have hd' : win day 0 100000 = false := by simpa using hd
      refine (F_drawback_Overdue_run (v := .tup [nilS, I 2]) rfl ?_ h).trans ?_
      · simp [f_drawback_Overdue, h1, F_drawback_within_val, hd']
      · rw [if_neg hd]; rfl
end Go.AM

/- drawback: Refund, Left, Total, Clone of arguments that lie in the heap; awake. -/
namespace Go.AM
open Go.Proofs
set_option linter.unusedVariables false
set_option linter.unusedSimpArgs false
set_option linter.constructorNameAsVariable false
set_option maxRecDepth 20000
theorem OutG.cvts {g : List AObj} {v : AV} {r : List Int} (O : OutG g v r) (a b c : AObj) : ∃ w, (∀ st, Go.AM.cvt st (a :: b :: c :: g) v = some w) ∧ nrm (.l 1) w = SL 1 encI r.isEmpty r := by
  rcases O with ⟨rfl, rfl⟩ | ⟨h1, k, rfl, h2⟩
  · exact ⟨nilS, fun st => rfl, rfl⟩
  · have he : r.isEmpty = false := by simpa using h1
    refine ⟨.lst 1 false (r.map encI), fun st => cvt_whole (by simpa using h2) (by simp) (by simp) (okE_map (by intro x; cases st <;> rfl)), ?_⟩
    rw [he]; rfl
theorem F_drawback_Refund_in (l : List Paid) (claims : List Claim) (b1 b2 : Bool) (limit : Int) (h : Hp) {x0 x1 : AV} (ha : cvts false h [x0, x1, I limit] = some [.lst 5 b1 (l.map encP), .lst 3 b2 (claims.map encC), I limit]) : F_drawback_Refund [x0, x1, I limit] h =
    some (.tup [SL 1 encI (refundS l claims limit).1.isEmpty (refundS l claims limit).1, I (refundS l claims limit).2.1, I (refundS l claims limit).2.2], h) := by
  have hc := carry_val l claims b1 b2 limit
  unfold refundS
  revert hc
  cases hS : carryS l claims limit with
  | inl je =>
    rintro ⟨h1, H, h2⟩
    refine (F_drawback_Refund_own (v := .tup [nilS, I je.1, I je.2]) ha (fun st => ?_)).trans rfl
    simp [f_drawback_Refund, h2]
  | inr r =>
    rintro ⟨v, kp, kc, g, h1, O, -⟩
    obtain ⟨w, hw, q1⟩ := O.cvts (.map kp) (.map kc) (fileO (lastL claims) limit)
    refine (F_drawback_Refund_own (v := .tup [w, I (-1), I 0]) ha (fun st => ?_)).trans ?_
    · simp [f_drawback_Refund, h1, hw]
    · show some (AV.tup [nrm (.l 1) w, I (-1), I 0], h) = _
      rw [q1]
theorem F_drawback_Left_in (l : List Paid) (claims : List Claim) (b1 b2 : Bool) (limit id : Int) (h : Hp) {x0 x1 : AV} (ha : cvts false h [x0, x1, I limit, I id] = some [.lst 5 b1 (l.map encP), .lst 3 b2 (claims.map encC), I limit, I id]) : F_drawback_Left [x0, x1, I limit, I id] h =
    some (.tup [I (leftS l claims limit id).1, I (leftS l claims limit id).2.1, I (leftS l claims limit id).2.2], h) := closedX_scal ha (F_drawback_Left_val l claims b1 b2 limit id []) rfl
theorem F_drawback_Total_in (l : List Paid) (claims : List Claim) (b1 b2 : Bool) (limit : Int) (h : Hp) {x0 x1 : AV} (ha : cvts false h [x0, x1, I limit] = some [.lst 5 b1 (l.map encP), .lst 3 b2 (claims.map encC), I limit]) : F_drawback_Total [x0, x1, I limit] h =
    some (.tup [I (totalS l claims limit).1, I (totalS l claims limit).2], h) := closedX_scal ha (F_drawback_Total_val l claims b1 b2 limit []) rfl
theorem F_slices_Equal_int_in (xs ys : List Int) (b1 b2 : Bool) (hb : xs.length < 1000000) (hy : ys.length < 1000000) (h : Hp) {x0 x1 : AV} (ha : cvts false h [x0, x1] = some [.lst 1 b1 (xs.map encI), .lst 1 b2 (ys.map encI)]) : F_slices_Equal_int [x0, x1] h = some (B (decide (xs = ys)), h) :=
  closedX_scal ha (F_slices_Equal_int_val xs ys b1 b2 hb hy []) rfl
theorem F_slices_Clone_Paid_in (p : Paid) (h : Hp) {x0 : AV} (ha : cvts false h [x0] = some [.lst 5 false [encP p]]) : F_slices_Clone_Paid [x0] h = some (.lst 5 false [encP p], h) := by
  refine (F_slices_Clone_Paid_own (v := .lst 5 false [encP p]) ha (fun st => ?_)).trans rfl
  have h3 : okE st [encP p] = true := okE_map (l := [p]) (f := encP) (by intro x; cases st <;> simp [encP, isS])
  simp [f_slices_Clone_Paid, bsE, fillS, appE, readSl, ap, encP]
  exact cvt_whole rfl rfl rfl h3
end Go.AM

/- drawback: the example. -/
namespace Go.AM
open Go.Proofs
set_option linter.unusedVariables false
set_option linter.unusedSimpArgs false
set_option linter.constructorNameAsVariable false
set_option maxRecDepth 20000
section
abbrev wP : List Paid := [⟨1, 1, 5, 3, 10⟩]
abbrev wC (d : Int) : List Claim := [⟨1, 6, 1⟩, ⟨1, 6, 1⟩, ⟨1, d, 1⟩]
abbrev eP : List (List AV) := [[I 1, I 1, I 5, I 3, I 10]]
abbrev eC (d : Int) : List (List AV) := [[I 1, I 6, I 1], [I 1, I 6, I 1], [I 1, I d, I 1]]
theorem aw1 (h : Hp) (id : Nat) (b : Bool) (hid : h[id]? = some (.arr 5 eP true false)) : F_slices_Clone_Paid [.sl 5 id 0 1 1 b] h = some (.lst 5 false eP, h) := F_slices_Clone_Paid_in ⟨1, 1, 5, 3, 10⟩ h (by simp [cvts, cvt, hid, okE, plain, encP])
theorem aw2 (h : Hp) (id : Nat) (b : Bool) (d : Int) (hid : h[id]? = some (.arr 3 (eC d) true false)) : R_slices_Clone_Claim [.sl 3 id 0 3 3 b] h = some (.sl 3 (h.length + 1) 0 3 3 false, h ++ [.arr 3 [] true false, .arr 3 (eC d) true false]) := by
  have hl := (List.getElem?_eq_some_iff.1 hid).1
  have hid' := fun x : List AObj => get_app (g := x) hid
  rw [R_slices_Clone_Claim_raw]
  simp only [f_slices_Clone_Claim]
  rw [eqK_sl (fr := 3) _ (by simp) hid rfl]
  simp [bsE, fillS, appE, readSl, hid, hid', ap]
theorem aw3 (h : Hp) (id : Nat) (b : Bool) (d : Int) (hid : h[id]? = some (.arr 3 (eC d) true false)) : R_slices_Clone_Claim [.sl 3 id 0 1 3 b] h = some (.sl 3 (h.length + 1) 0 1 1 false, h ++ [.arr 3 [] true false, .arr 3 [[I 1, I 6, I 1]] true false]) := by
  have hl := (List.getElem?_eq_some_iff.1 hid).1
  have hid' := fun x : List AObj => get_app (g := x) hid
  rw [R_slices_Clone_Claim_raw]
  simp only [f_slices_Clone_Claim]
  rw [eqK_sl (fr := 3) _ (by simp) hid rfl]
  simp [bsE, fillS, appE, readSl, hid, hid', ap]
theorem aw4 (h : Hp) (id : Nat) (b : Bool) (hid : h[id]? = some (.arr 3 (eC 35) true false)) : F_drawback_Refund [.lst 5 false eP, .sl 3 id 0 3 3 b, I 30] h = some (.tup [.lst 1 false [[I 3], [I 3], [I 4]], I (-1), I 0], h) :=
  (F_drawback_Refund_in wP (wC 35) false false 30 h (by simp [cvts, cvt, hid, okE, plain, encP, encC])).trans (by kernel_rfl)
theorem aw5 (h : Hp) (id : Nat) (b : Bool) (hid : h[id]? = some (.arr 3 [[I 1, I 6, I 1]] true false)) : F_drawback_Left [.lst 5 false eP, .sl 3 id 0 1 1 b, I 30, I 1] h = some (.tup [I 2, I 7, I 0], h) :=
  (F_drawback_Left_in wP [⟨1, 6, 1⟩] false false 30 1 h (by simp [cvts, cvt, hid, okE, plain, encP, encC])).trans (by kernel_rfl)
theorem aw6 (h : Hp) (id : Nat) (b : Bool) (hid : h[id]? = some (.arr 3 (eC 35) true false)) : F_drawback_Total [.lst 5 false eP, .sl 3 id 0 3 3 b, I 30] h = some (.tup [I 10, I 0], h) :=
  (F_drawback_Total_in wP (wC 35) false false 30 h (by simp [cvts, cvt, hid, okE, plain, encP, encC])).trans (by kernel_rfl)
theorem aw7 (h : Hp) : F_drawback_Overdue [.lst 5 false eP, nilS, I 30, I 36] h = some (.tup [.lst 1 false [[I 1]], I 0], h) := by
  have := F_drawback_Overdue_val wP [] false true 30 36 h
  refine Eq.trans ?_ (this.trans (by kernel_rfl))
  rfl
theorem aw8 (h : Hp) (id : Nat) (b : Bool) (hid : h[id]? = some (.arr 3 (eC 36) true false)) : F_drawback_Refund [.lst 5 false eP, .sl 3 id 0 3 3 b, I 30] h = some (.tup [.lst 1 true [], I 2, I 23], h) :=
  (F_drawback_Refund_in wP (wC 36) false false 30 h (by simp [cvts, cvt, hid, okE, plain, encP, encC])).trans (by kernel_rfl)
theorem aw9 (h : Hp) : F_drawback_Check [.lst 5 false eP] h = some (.tup [I (-1), I 0], h) := (F_drawback_Check_val wP false h).trans (by kernel_rfl)
theorem aw10 (h : Hp) (id : Nat) (b : Bool) (hid : h[id]? = some (.arr 1 [[I 3], [I 3], [I 4]] true false)) : F_slices_Equal_int [.lst 1 false [[I 3], [I 3], [I 4]], .sl 1 id 0 3 3 b] h = some (B true, h) :=
  (F_slices_Equal_int_in [3, 3, 4] [3, 3, 4] false false (by simp) (by simp) h (by simp [cvts, cvt, hid, okE, plain, encI])).trans (by kernel_rfl)
theorem aw11 (h : Hp) (id : Nat) (b : Bool) (hid : h[id]? = some (.arr 1 [[I 1]] true false)) : F_slices_Equal_int [.lst 1 false [[I 1]], .sl 1 id 0 1 1 b] h = some (B true, h) :=
  (F_slices_Equal_int_in [1] [1] false false (by simp) (by simp) h (by simp [cvts, cvt, hid, okE, plain, encI])).trans (by kernel_rfl)
theorem F_law48_awake_val (h : Hp) : F_law48_awake [] h = some (B true, h) := by
  refine F_law48_awake_run rfl ?_ h
  simp [f_law48_awake, buildK, fillA, bsE, fillS, aw1, aw2, aw3, aw4, aw5, aw6, aw7, aw8, aw9, aw10, aw11, sliceK, boundOr, iaK_sl, show IntKind.i64.wrap 0 = 0 from by kernel_rfl]
end
end Go.AM

/- drawback: DrawbackNear. -/
namespace Go.AM
open Go.Proofs
set_option linter.unusedVariables false
set_option linter.unusedSimpArgs false
set_option linter.constructorNameAsVariable false
set_option maxRecDepth 20000
/-- One claim of one paid duty. -/
theorem refund_one (p : Paid) (alc limit : Int) : refundS [p] [⟨p.id, p.day, alc⟩] limit = if badP p then ([], -1, 1) else if win limit 0 100000 = false then ([], -1, 2) else
    if stepErr (paidL [p]) (fun _ => 0) 0 limit ⟨p.id, p.day, alc⟩ = 0 then ([partOf p alc - partOf p 0], -1, 0) else ([], 0, stepErr (paidL [p]) (fun _ => 0) 0 limit ⟨p.id, p.day, alc⟩) := by
  have h0 : claimedL [] = fun _ => 0 := by funext n; rfl
  have hp : paidL [p] p.id = some p := by simp [paidL]
  have hc : (checkP [p]).2 = if badP p then 2 else 0 := by
    by_cases hb : badP p = true <;> simp [checkP, checkAt, hb]
  by_cases hb : badP p = true
  · simp [refundS, carryS, hc, hb]
  · by_cases hl : win limit 0 100000 = false
    · simp [refundS, carryS, hc, hb, hl]
    · by_cases he : stepErr (paidL [p]) (fun _ => 0) 0 limit ⟨p.id, p.day, alc⟩ = 0
      · simp [refundS, carryS, hc, hb, hl, runC, errC, h0, lastL, he, refundC, hp]
      · simp [refundS, carryS, hc, hb, hl, runC, errC, h0, lastL, he]
theorem partOf_zero (p : Paid) : partOf p 0 = 0 := by
  unfold partOf propOf
  split
  · rfl
  · split
    · rfl
    · split
      · simp
      · rfl
theorem stepErr_one (p : Paid) (alc limit : Int) (hb : badP p = false) (hl : win limit 0 100000 = true) : stepErr (paidL [p]) (fun _ => 0) 0 limit ⟨p.id, p.day, alc⟩ = 0 ↔ 1 ≤ alc ∧ alc ≤ p.alc := by
  have hp : paidL [p] p.id = some p := by simp [paidL]
  simp [badP, win] at hb hl
  unfold stepErr
  simp only [hp]
  simp [bad1, win]
  split
  · simp; omega
  · split
    · simp; omega
    · split
      · simp; omega
      · split
        · simp; omega
        · simp; omega
theorem prop_one (p : Paid) (alc : Int) (hb : badP p = false) (h1 : 1 ≤ alc) (h2 : alc ≤ p.alc) : (propOf p.duty alc p.alc).2.2 = 0 := by
  simp [badP, win] at hb
  have q : p.duty * alc / p.alc ≤ p.duty := by
    refine Int.le_trans (Int.ediv_le_ediv (by omega) (Int.mul_le_mul_of_nonneg_left h2 (by omega))) ?_
    rw [Int.mul_ediv_cancel _ (by omega)]; omega
  have q2 : p.duty * alc / p.alc ≤ 128849018880000 := by omega
  have hm : (amt p.duty && amt alc && amt p.alc) = true := by simp [amt]; omega
  unfold propOf
  rw [hm]
  simp [show ¬ p.alc = 0 by omega, q2]
theorem partOf_all (p : Paid) (hb : badP p = false) : partOf p p.alc = p.duty := by
  simp [badP, win] at hb
  have q : p.duty * p.alc / p.alc = p.duty := Int.mul_ediv_cancel _ (by omega)
  have q2 : p.duty ≤ 128849018880000 := by omega
  have hm : (amt p.duty && amt p.alc && amt p.alc) = true := by simp [amt]; omega
  unfold partOf propOf
  rw [hm]
  simp [q, q2, show ¬ p.alc = 0 by omega]
/-- Where a claim of one paid duty is not refused. -/
def oneOk (p : Paid) (alc limit : Int) : Bool := !badP p && win limit 0 100000 && decide (1 ≤ alc) && decide (alc ≤ p.alc)
theorem one_ok (p : Paid) (alc limit : Int) (h : oneOk p alc limit = true) : refundS [p] [⟨p.id, p.day, alc⟩] limit = ([partOf p alc], -1, 0) := by
  simp [oneOk] at h
  obtain ⟨⟨⟨h1, h2⟩, h3⟩, h4⟩ := h
  rw [refund_one, if_neg (by simp [h1]), if_neg (by simp [h2]), if_pos ((stepErr_one p alc limit h1 h2).2 ⟨h3, h4⟩), partOf_zero, Int.sub_zero]
theorem one_not (p : Paid) (alc limit : Int) (h : oneOk p alc limit = false) : (refundS [p] [⟨p.id, p.day, alc⟩] limit).1 = [] ∧ (refundS [p] [⟨p.id, p.day, alc⟩] limit).2.2 ≠ 0 := by
  rw [refund_one]
  by_cases hb : badP p = true
  · rw [if_pos hb]; simp
  · rw [if_neg hb]
    by_cases hl : win limit 0 100000 = false
    · rw [if_pos hl]; simp
    · rw [if_neg hl]
      have hb' : badP p = false := by simpa using hb
      have hl' : win limit 0 100000 = true := by simpa using hl
      have : ¬ (1 ≤ alc ∧ alc ≤ p.alc) := by
        rintro ⟨q1, q2⟩
        simp [oneOk, hb', hl', q1, q2] at h
      have hs : ¬ stepErr (paidL [p]) (fun _ => 0) 0 limit ⟨p.id, p.day, alc⟩ = 0 := fun e => this ((stepErr_one p alc limit hb' hl').1 e)
      rw [if_neg hs]
      exact ⟨rfl, hs⟩
theorem near_law (p : Paid) (alc limit : Int) : F_law48_DrawbackNear [.agg (encP p), I alc, I limit] [] = some (B true, []) := by
  have R := fun (alc : Int) (h : Hp) (i j : Nat) (b c : Bool) (h1 : h[i]? = some (.arr 5 [encP p] true false)) (h2 : h[j]? = some (.arr 3 [[I p.id, I p.day, I alc]] true false)) =>
    F_drawback_Refund_in [p] [⟨p.id, p.day, alc⟩] false false limit h (x0 := .sl 5 i 0 1 1 b) (x1 := .sl 3 j 0 1 1 c) (by simp [cvts, cvt, h1, h2, okE, plain, encP, encC])
  simp only [encP] at R
  refine F_law48_DrawbackNear_run rfl ?_ []
  cases ho : oneOk p alc limit with
  | false =>
    obtain ⟨e1, e2⟩ := one_not p alc limit ho
    have R1 := R alc
    simp [e1] at R1
    simp [f_law48_DrawbackNear, encP, boxE, F_law48_awake_val, buildK, fillA, bsE, fillS, R1, e2]
  | true =>
    have ho2 : oneOk p p.alc limit = true := by simp [oneOk] at ho ⊢; exact ⟨ho.1.1, by omega⟩
    have hb : badP p = false := by simp [oneOk] at ho; exact ho.1.1.1
    have e3 := prop_one p alc hb (by simp [oneOk] at ho; omega) (by simp [oneOk] at ho; omega)
    have e4 := partOf_all p hb
    have e5 : (propOf p.duty alc p.alc).1 = partOf p alc := rfl
    have R1 := R alc
    simp [one_ok p alc limit ho] at R1
    have R2 := R p.alc
    simp [one_ok p p.alc limit ho2, e4] at R2
    simp [f_law48_DrawbackNear, encP, boxE, F_law48_awake_val, buildK, fillA, bsE, fillS, R1, R2, F_proportion_Of_val, e3, e5]
end Go.AM

/- The row: arguments opened, and what a call of a law tells. -/
namespace Go.AM
open Go.RowKit
set_option linter.unusedVariables false
/-- Ahead of a call all that is there is immutable. -/
def mu0 (w : World) : Mu := ⟨fun _ => .virt none, w, fun k => k < w.heap.size⟩
theorem rel0 (w : World) : Rel (mu0 w) [] w where
  obj := fun id o h => by simp at h
  sep := fun i j o p b x c y d h => by simp at h
  apart := fun i sz es nil b x c h => by simp at h
  imm := fun k hk => ⟨hk, rfl, fun ⟨id, o, off, c, h, _⟩ => by simp at h⟩
theorem own0 (w : World) (b : Nat) : ¬ Own (mu0 w) [] b := fun ⟨id, o, off, c, h, _⟩ => by simp at h
theorem below0 {w w' : World} {μ' : Mu} {h' : Hp} (s : Step (mu0 w) [] w μ' h' w') : Below w.heap.size w w' :=
  ⟨s.frame.os, s.frame.tape, s.frame.output, s.frame.size, fun k hk => s.frame.block k hk (own0 w k)⟩
/-- What a call of a law tells. -/
theorem row_calls {P : Program} {f : FuncId} {F : Fun} {args : List AV} {h' : Hp} {b : Bool} {W : World} {cargs : Array Value} (hc : CSound P f F) (hF : F args [] = some (.s (.bool b), h')) (hv : VRs (mu0 W) [] args cargs.toList) :
    Calls P f cargs W fun e W' => e = .returned (.bool b) ∧ Below W.heap.size W W' := by
  refine (hc args [] _ h' hF (mu0 W) W cargs (rel0 W) hv).2.mono fun e W' => ?_
  rintro ⟨cv, μ', rfl, s, hr⟩
  simp only [VR] at hr
  exact ⟨by rw [hr.2], below0 s⟩

/-! ### Types of arguments. -/
inductive Ty where
  | int (k : IntKind)
  | bool
  | str
  | sl (e : List Ty)
def tyFs (f : TypeId → Option (List Ty)) (size : TypeId → Nat) : List Field → Nat → Option (List Ty)
  | [], _ => some []
  | x :: l, pos => match f x.type, tyFs f size l (pos + size x.type) with
    | some a, some b => if x.offset = pos ∧ a.length = size x.type then some (a ++ b) else none
    | _, _ => none
def tyOf (P : Program) : Nat → TypeId → Option (List Ty)
  | 0, _ => none
  | n + 1, t => match P.underlying t with
    | some .bool => some [.bool]
    | some (.int k) => some [.int k]
    | some .string => some [.str]
    | some (.slice e) => match tyOf P n e with
      | some l => if l.length = P.cellsOf e ∧ 0 < l.length then some [.sl l] else none
      | none => none
    | some (.struct fs) => match tyFs (tyOf P n) P.cellsOf fs.toList 0 with
      | some l => if l.length = P.cellsOf t then some l else none
      | none => none
    | _ => none
mutual
def HasT : Ty → AV → Prop
  | .int k, a => ∃ n, a = .s (.int k n) ∧ (Lit.int k n).wf = true
  | .bool, a => ∃ b, a = .s (.bool b)
  | .str, a => ∃ s : ByteArray, a = .s (.string s) ∧ s.size ≤ maxLen
  | .sl ts, a => ∃ nil es, a = .lst ts.length nil es ∧ (nil = true → es = []) ∧ es.length ≤ maxLen ∧ ∀ e ∈ es, HasTs ts e
def HasTs : List Ty → List AV → Prop
  | [], asl => asl = []
  | t :: ts, asl => ∃ a as', asl = a :: as' ∧ HasT t a ∧ HasTs ts as'
end
theorem HasTs.app : ∀ {ts us : List Ty} {asl bs : List AV}, HasTs ts asl → HasTs us bs → HasTs (ts ++ us) (asl ++ bs)
  | [], us, asl, bs, h, k => by simp only [HasTs] at h; subst h; exact k
  | t :: ts, us, asl, bs, h, k => by
    simp only [HasTs] at h
    obtain ⟨a, as', rfl, h1, h2⟩ := h
    simp only [List.cons_append, HasTs]
    exact ⟨a, _, rfl, h1, HasTs.app h2 k⟩
theorem HasTs.len : ∀ {ts : List Ty} {asl : List AV}, HasTs ts asl → asl.length = ts.length
  | [], asl, h => by simp only [HasTs] at h; subst h; rfl
  | t :: ts, asl, h => by
    simp only [HasTs] at h
    obtain ⟨a, as', rfl, h1, h2⟩ := h
    simp [HasTs.len h2]
theorem HasT.ok : ∀ {t : Ty} {a : AV}, HasT t a → okC a = true
  | .int k, a, h => by simp only [HasT] at h; obtain ⟨n, rfl, _⟩ := h; rfl
  | .bool, a, h => by simp only [HasT] at h; obtain ⟨n, rfl⟩ := h; rfl
  | .str, a, h => by simp only [HasT] at h; obtain ⟨n, rfl, _⟩ := h; rfl
  | .sl ts, a, h => by simp only [HasT] at h; obtain ⟨n, es, rfl, _⟩ := h; rfl
theorem HasTs.ok : ∀ {ts : List Ty} {asl : List AV}, HasTs ts asl → ∀ x ∈ asl, okC x = true
  | [], asl, h, x, hx => by simp only [HasTs] at h; subst h; simp at hx
  | t :: ts, asl, h, x, hx => by
    simp only [HasTs] at h
    obtain ⟨a, as', rfl, h1, h2⟩ := h
    rcases List.mem_cons.1 hx with rfl | hx
    · exact h1.ok
    · exact h2.ok x hx
theorem VRs_app' {μ : Mu} {h : Hp} : ∀ {asl bs : List AV} {cs ds : List Value}, VRs μ h asl cs → VRs μ h bs ds → VRs μ h (asl ++ bs) (cs ++ ds)
  | [], bs, cs, ds, h1, h2 => by simp only [VRs] at h1; subst h1; exact h2
  | a :: asl, bs, cs, ds, h1, h2 => by
    simp only [VRs] at h1
    obtain ⟨v, vs, rfl, h3, h4⟩ := h1
    simp only [List.cons_append, VRs]
    exact ⟨v, _, rfl, h3, VRs_app' h4 h2⟩
section
variable {H : Type} {enc : TypeId × Value → H} {P : Program} {w : World} {base : Nat} {spare : Nat → Bool} {held : Bool}
/-- Cells of a type, opened. -/
def Opened (w : World) (ts : List Ty) (cs : List Value) : Prop := ∃ asl, HasTs ts asl ∧ VRs (mu0 w) [] asl cs ∧ ∀ u ∈ cs, u.oneCell' = true
theorem open_one {t : Ty} {u : Value} {a : AV} (h1 : HasT t a) (h2 : VR (mu0 w) [] a u) (h3 : u.oneCell' = true) : Opened w [t] [u] :=
  ⟨[a], by simp only [HasTs]; exact ⟨a, [], rfl, h1, rfl⟩, by simp only [VRs]; exact ⟨u, [], rfl, h2, rfl⟩, by simpa using h3⟩
theorem open_fs {f : TypeId → Option (List Ty)} {g : TypeId → List Value → Prop} {cs : List Value} (hg : ∀ t ts cs', f t = some ts → g t cs' → Opened w ts cs') : ∀ (l : List Field) (pos : Nat) (ts : List Ty), tyFs f P.cellsOf l pos = some ts →
    (∀ x ∈ l, g x.type ((cs.drop x.offset).take (P.cellsOf x.type))) → Opened w ts ((cs.drop pos).take ts.length)
  | [], pos, ts, h, _ => by
    simp only [tyFs, Option.some.injEq] at h
    subst h
    exact ⟨[], rfl, rfl, by simp⟩
  | x :: l, pos, ts, h, hx => by
    simp only [tyFs] at h
    split at h
    · rename_i a b h1 h2
      split at h
      · rename_i hc
        simp only [Option.some.injEq] at h
        subst h
        obtain ⟨h3, h4⟩ := hc
        obtain ⟨asl, p1, p2, p3⟩ := hg _ _ _ h1 (hx x (by simp))
        obtain ⟨bs, q1, q2, q3⟩ := open_fs hg l _ b h2 (fun y hy => hx y (by simp [hy]))
        have e : (cs.drop pos).take (a ++ b).length = (cs.drop x.offset).take (P.cellsOf x.type) ++ (cs.drop (pos + P.cellsOf x.type)).take b.length := by
          rw [List.length_append, h4, h3, ← List.drop_drop, List.take_add]
        rw [e]
        refine ⟨asl ++ bs, p1.app q1, VRs_app' p2 q2, ?_⟩
        intro u hu
        rcases List.mem_append.1 hu with hu | hu
        · exact p3 u hu
        · exact q3 u hu
      · simp at h
    · simp at h
/-- Elements, one behind the other, in one block. -/
theorem open_es {ts : List Ty} {sz b : Nat} (hts : ts.length = sz) : ∀ (n o : Nat), (∀ i, i < n → ∃ cs, Opened w ts cs ∧ cs.length = sz ∧ ∀ j u, cs[j]? = some u → w.cell? ⟨b, o + i * sz + j, none⟩ = some u) →
    ∃ es vs, es.length = n ∧ (∀ e ∈ es, HasTs ts e) ∧ VRf (mu0 w) [] es vs ∧ ∀ j u, vs[j]? = some u → w.cell? ⟨b, o + j, none⟩ = some u ∧ u.oneCell' = true
  | 0, o, h => ⟨[], [], rfl, by simp, rfl, by simp⟩
  | n + 1, o, h => by
    obtain ⟨cs, ⟨asl, h1, h2, h3⟩, h4, h5⟩ := h 0 (by omega)
    obtain ⟨es, vs, k1, k2, k3, k4⟩ := open_es hts n (o + sz) (fun i hi => by
      obtain ⟨cs', q1, q2, q3⟩ := h (i + 1) (by omega)
      refine ⟨cs', q1, q2, fun j u hu => ?_⟩
      rw [← q3 j u hu]
      congr 2
      rw [Nat.add_mul]; omega)
    refine ⟨asl :: es, cs ++ vs, by simp [k1], ?_, ?_, ?_⟩
    · intro e he
      rcases List.mem_cons.1 he with rfl | he
      · exact h1
      · exact k2 e he
    · simp only [VRf]; exact ⟨cs, vs, rfl, h2, k3⟩
    · intro j u hj
      by_cases hlt : j < cs.length
      · rw [List.getElem?_append_left hlt] at hj
        have := h5 j u hj
        exact ⟨by simpa using this, h3 u (List.mem_of_getElem? hj)⟩
      · rw [List.getElem?_append_right (by omega)] at hj
        have := k4 _ _ hj
        rw [show o + sz + (j - cs.length) = o + j by omega] at this
        exact this
theorem cell_lt {a : Addr} {v : Value} (h : w.cell? a = some v) : a.block < w.heap.size := by
  rcases Nat.lt_or_ge a.block w.heap.size with h1 | h1
  · exact h1
  · have : w.heap[a.block]? = none := by simpa using h1
    simp [World.cell?, this] at h
theorem open_cells : ∀ (fuel n : Nat) (t : TypeId) (ts : List Ty) (cs : List Value) (x : DataW H × List MemPlace), tyOf P n t = some ts → DataW.trod enc P w base spare held fuel t cs = some x → Opened w ts cs
  | 0, n, t, ts, cs, x, _, h => by simp [DataW.trod] at h
  | fuel + 1, 0, t, ts, cs, x, h0, _ => by simp [tyOf] at h0
  | fuel + 1, n + 1, t, ts, cs, x, h0, h => by
    unfold tyOf at h0
    cases hu : P.underlying t with
    | none => rw [hu] at h0; simp at h0
    | some T =>
      rw [hu] at h0
      cases T with
      | bool =>
        simp only [Option.some.injEq] at h0
        subst h0
        obtain ⟨b, rfl, _⟩ := DataW.trod_bool hu h
        exact open_one (a := .s (.bool b)) (by simp [HasT]) (by simp [VR, gv]) rfl
      | int k =>
        simp only [Option.some.injEq] at h0
        subst h0
        obtain ⟨m, rfl, _, hw⟩ := DataW.trod_int hu h
        exact open_one (a := .s (.int k m)) (by simp [HasT, hw]) (by simp [VR, gv]) rfl
      | string =>
        simp only [Option.some.injEq] at h0
        subst h0
        obtain ⟨s, rfl, _, hs⟩ := DataW.trod_string hu h
        exact open_one (a := .s (.string s)) (by simp [HasT, hs]) (by simp [VR, gv]) rfl
      | slice e =>
        simp only at h0
        cases he : tyOf P n e with
        | none => rw [he] at h0; simp at h0
        | some l =>
          rw [he] at h0
          simp only at h0
          split at h0
          · rename_i hl
            simp only [Option.some.injEq] at h0
            subst h0
            rcases DataW.trod_slice hu h with ⟨rfl, _⟩ | ⟨a, len, cap, elems, rest, m, hm, rfl, _, hb, h1, h2, h3, h4, _, _⟩
            · refine open_one (a := .lst l.length true []) ?_ ?_ rfl
              · simp only [HasT]; exact ⟨true, [], rfl, fun _ => rfl, by simp, by simp⟩
              · simp only [VR]
                exact ⟨none, 0, rfl, by simp, by simp, rfl, fun _ => rfl, by simp, by simp⟩
            · have hm' : m = fuel := by omega
              subst hm'
              have cell : ∀ i, i < len → ∃ cs, Opened w l cs ∧ cs.length = P.cellsOf e ∧ ∀ j, j < P.cellsOf e → w.cell? ((a.add (i * P.cellsOf e)).add j) = cs[j]? := by
                intro i hi
                have hi' := h4 i hi
                rw [List.getElem?_eq_getElem (by omega), Option.bind_eq_some_iff] at hi'
                obtain ⟨cs, q1, q2⟩ := hi'
                have q3 := World.cells?_some q1
                exact ⟨cs, open_cells m n e l cs _ he q2, q3.2.1, q3.2.2⟩
              obtain ⟨b, off, spot⟩ := a
              have hsp : len ≠ 0 → spot = none := fun hn => by
                obtain ⟨cs, _, q2, q3⟩ := cell 0 (by omega)
                have q4 := q3 0 (by omega)
                rw [List.getElem?_eq_getElem (by omega)] at q4
                simpa [Addr.add] using World.cell?_spot q4
              by_cases hn : len = 0
              · subst hn
                refine open_one (a := .lst l.length false []) ?_ ?_ rfl
                · simp only [HasT]; exact ⟨false, [], rfl, fun _ => rfl, by simp, by simp⟩
                · simp only [VR]
                  exact ⟨_, cap, rfl, by simp, h2, rfl, by simp, by simp, by simp⟩
              · have hs := hsp hn
                subst hs
                obtain ⟨es, vs, k1, k2, k3, k4⟩ := open_es (w := w) (ts := l) (sz := P.cellsOf e) (b := b) hl.1 len off (fun i hi => by
                  obtain ⟨cs, q1, q2, q3⟩ := cell i hi
                  refine ⟨cs, q1, q2, fun j u hj => ?_⟩
                  have hjl := (List.getElem?_eq_some_iff.1 hj).1
                  have := q3 j (by omega)
                  rw [hj] at this
                  rw [← this, Go.WideShapes.add_plain, Go.WideShapes.add_plain])
                refine open_one (a := .lst l.length false es) ?_ ?_ rfl
                · simp only [HasT]; exact ⟨false, es, rfl, by simp, by omega, k2⟩
                · simp only [VR]
                  refine ⟨_, cap, by rw [k1], by omega, h2, rfl, by simp, fun e' he' => ⟨(k2 e' he').len, (k2 e' he').ok⟩, fun _ => ⟨b, off, vs, rfl, ?_, k3, k4⟩⟩
                  obtain ⟨cs, q1, q2, q3⟩ := cell 0 (by omega)
                  have q4 := q3 0 (by omega)
                  rw [List.getElem?_eq_getElem (by omega)] at q4
                  show b < w.heap.size
                  rw [Go.WideShapes.add_plain, Go.WideShapes.add_plain] at q4
                  exact cell_lt q4
          · simp at h0
      | struct fs =>
        simp only at h0
        cases he : tyFs (tyOf P n) P.cellsOf fs.toList 0 with
        | none => rw [he] at h0; simp at h0
        | some l =>
          rw [he] at h0
          simp only at h0
          split at h0
          · rename_i hl
            simp only [Option.some.injEq] at h0
            subst h0
            obtain ⟨xs, m, hm, _, h2, h3, h4⟩ := DataW.trod_struct hu h
            have hm' : m = fuel := by omega
            subst hm'
            have := open_fs (w := w) (P := P) (f := tyOf P n) (g := fun t cs' => ∃ y, DataW.trod enc P w base spare held m t cs' = some y) (cs := cs) (fun t ts cs' q1 ⟨y, q2⟩ => open_cells m n t ts cs' y q1 q2) fs.toList 0 l he (fun y hy => by
              obtain ⟨i, hi⟩ := List.getElem?_of_mem hy
              have hi2 : fs[i]? = some y := by simpa using hi
              have := h4 i y hi2
              have hlt : i < xs.length := by rw [h3]; exact (Array.getElem?_eq_some_iff.1 hi2).1
              rw [List.getElem?_eq_getElem hlt] at this
              exact ⟨_, this⟩)
            rw [List.drop_zero, hl, ← h2, List.take_length] at this
            exact this
          · simp at h0
      | _ => simp at h0
/-- A struct that comes in. -/
theorem open_agg {t : TypeId} {fs : Array Field} {r : Reach} {b : Nat} {v : Value} {d : DataW H} {ps : List MemPlace} {n : Nat} {ts : List Ty} (hu : P.underlying t = some (.struct fs)) (ht : tyOf P n t = some ts) (hval : Value.okWide P w r b t v)
    (hd : DataW.Trod enc P w base spare held t v d ps) : ∃ asl, HasTs ts asl ∧ VR (mu0 w) [] (.agg asl) v := by
  obtain ⟨cs, rfl, _⟩ := WideShapes.okWide_struct hu hval
  obtain ⟨fuel, hf⟩ := hd
  obtain ⟨asl, h1, h2, _⟩ := open_cells fuel n t ts _ _ ht hf
  exact ⟨asl, h1, by simp only [VR]; exact ⟨cs, rfl, h2⟩⟩
/-- What is one cell, and comes in. -/
theorem open_cell {t : TypeId} {v : Value} {d : DataW H} {ps : List MemPlace} {n : Nat} {ty : Ty} (hv : v.cells = #[v]) (ht : tyOf P n t = some [ty]) (hd : DataW.Trod enc P w base spare held t v d ps) : ∃ a, HasT ty a ∧ VR (mu0 w) [] a v := by
  obtain ⟨fuel, hf⟩ := hd
  rw [hv] at hf
  obtain ⟨asl, h1, h2, _⟩ := open_cells fuel n t [ty] _ _ ht hf
  simp only [HasTs] at h1
  obtain ⟨a, as', rfl, h1, rfl⟩ := h1
  simp only [VRs] at h2
  obtain ⟨v', vs', h3, h4, _⟩ := h2
  simp at h3
  exact ⟨a, h1, by rw [h3.1]; exact h4⟩
end
theorem wf_u8 {n : Int} (h : (Lit.int .u8 n).wf = true) : 0 ≤ n ∧ n ≤ 255 := by
  simp [Lit.wf, IntKind.min, IntKind.max, IntKind.signed, IntKind.bits] at h; omega
theorem wf_u16 {n : Int} (h : (Lit.int .u16 n).wf = true) : 0 ≤ n ∧ n ≤ 65535 := by
  simp [Lit.wf, IntKind.min, IntKind.max, IntKind.signed, IntKind.bits] at h; omega
theorem wf_u64 {n : Int} (h : (Lit.int .u64 n).wf = true) : 0 ≤ n ∧ n ≤ 18446744073709551615 := by
  simp [Lit.wf, IntKind.min, IntKind.max, IntKind.signed, IntKind.bits] at h; omega
theorem wf_i64 {n : Int} (h : (Lit.int .i64 n).wf = true) : -9223372036854775808 ≤ n ∧ n ≤ 9223372036854775807 := by
  simp [Lit.wf, IntKind.min, IntKind.max, IntKind.signed, IntKind.bits] at h; omega
/-- A slice whose elements open. -/
theorem has_list {α : Type} {ts : List Ty} {f : α → List AV} (hf : ∀ cs, HasTs ts cs → ∃ x, cs = f x) {a : AV} (h : HasT (.sl ts) a) : ∃ (l : List α) (b : Bool), a = .lst ts.length (b && l.isEmpty) (l.map f) := by
  simp only [HasT] at h
  obtain ⟨nil, es, rfl, hn, hm, he⟩ := h
  have : ∃ l : List α, es = l.map f := by
    clear hn hm
    induction es with
    | nil => exact ⟨[], rfl⟩
    | cons e es ih =>
      obtain ⟨x, hx⟩ := hf e (he e (by simp))
      obtain ⟨l, hl⟩ := ih (fun e' h' => he e' (by simp [h']))
      exact ⟨x :: l, by simp [hx, hl]⟩
  obtain ⟨l, rfl⟩ := this
  refine ⟨l, nil, ?_⟩
  cases nil with
  | false => rfl
  | true =>
    have : l = [] := by simpa using hn rfl
    subst this; rfl
end Go.AM

/- drawback: arguments. -/
namespace Go.AM
open Go.Proofs
set_option linter.unusedVariables false
theorem has_Paid {cs : List AV} (h : HasTs [.int .i64, .int .i64, .int .i64, .int .i64, .int .i64] cs) : ∃ p : Paid, cs = encP p := by
  simp only [HasTs, HasT] at h
  obtain ⟨_, _, rfl, ⟨a, rfl, _⟩, _, _, rfl, ⟨b, rfl, _⟩, _, _, rfl, ⟨c, rfl, _⟩, _, _, rfl, ⟨d, rfl, _⟩, _, _, rfl, ⟨e, rfl, _⟩, rfl⟩ := h
  exact ⟨⟨a, b, c, d, e⟩, rfl⟩
theorem has_Claim {cs : List AV} (h : HasTs [.int .i64, .int .i64, .int .i64] cs) : ∃ p : Claim, cs = encC p := by
  simp only [HasTs, HasT] at h
  obtain ⟨_, _, rfl, ⟨a, rfl, _⟩, _, _, rfl, ⟨b, rfl, _⟩, _, _, rfl, ⟨c, rfl, _⟩, rfl⟩ := h
  exact ⟨⟨a, b, c⟩, rfl⟩
theorem has_Paids {a : AV} (h : HasT (.sl [.int .i64, .int .i64, .int .i64, .int .i64, .int .i64]) a) : ∃ (l : List Paid) (b : Bool), a = SL 5 encP b l := has_list (fun _ h => has_Paid h) h
theorem has_Claims {a : AV} (h : HasT (.sl [.int .i64, .int .i64, .int .i64]) a) : ∃ (l : List Claim) (b : Bool), a = SL 3 encC b l := has_list (fun _ h => has_Claim h) h
end Go.AM

/- Slices that grow. -/
namespace Go.AM
set_option linter.unusedVariables false
def idOf : AV → Option Nat
  | .sl _ id .. => some id
  | _ => none
@[simp] theorem idOf_sl (sz id off len fr : Nat) (full : Bool) : idOf (.sl sz id off len fr full) = some id := rfl
@[simp] theorem idOf_nilS : idOf nilS = none := rfl
/-- A slice that grows: nil, or a whole array. -/
def Gro {α : Type} (sz : Nat) (f : α → List AV) (h : Hp) (v : AV) (l : List α) : Prop := (l = [] ∧ v = nilS) ∨ (l ≠ [] ∧ ∃ k, v = .sl sz k 0 l.length l.length false ∧ h[k]? = some (.arr sz (l.map f) true false))
section
variable {α β : Type} {sz : Nat} {f : α → List AV} {h h' : Hp} {v : AV} {l : List α}
theorem Gro.nil : Gro sz f h nilS [] := .inl ⟨rfl, rfl⟩
theorem Gro.keep (O : Gro sz f h v l) (hk : ∀ k o, idOf v = some k → h[k]? = some o → h'[k]? = some o) : Gro sz f h' v l := by
  rcases O with O | ⟨h1, k, rfl, h2⟩
  · exact .inl O
  · exact .inr ⟨h1, k, rfl, hk k _ rfl h2⟩
theorem Gro.app (O : Gro sz f h v l) (x : List AObj) : Gro sz f (h ++ x) v l := O.keep fun k o _ hk => get_app hk
theorem Gro.lt (O : Gro sz f h v l) {k : Nat} (hk : idOf v = some k) : k < h.length := by
  rcases O with ⟨_, rfl⟩ | ⟨h1, j, rfl, h2⟩
  · simp at hk
  · simp at hk; subst hk; exact (List.getElem?_eq_some_iff.1 h2).1
theorem Gro.len (O : Gro sz f h v l) (k : K β) : lenK v k = k (I l.length) := by
  rcases O with ⟨rfl, rfl⟩ | ⟨h1, j, rfl, h2⟩ <;> simp
theorem Gro.cvts (O : Gro sz f h v l) (hf : ∀ x st, (f x).all (fun c => bif st then isS c else plain c) = true) : ∃ w, (∀ st, Go.AM.cvt st h v = some w) ∧ nrm (.l sz) w = .lst sz l.isEmpty (l.map f) := by
  rcases O with ⟨rfl, rfl⟩ | ⟨h1, k, rfl, h2⟩
  · exact ⟨nilS, fun st => rfl, rfl⟩
  · have he : l.isEmpty = false := by simpa using h1
    refine ⟨.lst sz false (l.map f), fun st => cvt_whole h2 (by simp) (by simp) (okE_map fun x => hf x st), ?_⟩
    rw [he]; rfl
theorem Gro.snoc (β : Type) (O : Gro sz f h v l) {by_ m : Nat} {z : α} {b : Bool} (hm : h[m]? = some (.arr sz [f z] true false)) (hv : idOf v ≠ some m) (hf : ∀ x ∈ z :: l, (f x).length = sz) (hl : (l.length + 1) * by_ ≤ 140737488355328) :
    ∃ v' h', (∀ k : AV → Hp → Option β, effK (appE sz by_ v (.sl sz m 0 1 1 b) h h.length) h k = k v' h') ∧ Gro sz f h' v' (l ++ [z]) ∧ h.length ≤ h'.length ∧ (∀ j o, h[j]? = some o → idOf v ≠ some j → h'[j]? = some o) ∧ (idOf v' = idOf v ∨ idOf v' = some h.length) := by
  have hz : (f z).length = sz := hf z (by simp)
  rcases O with ⟨rfl, rfl⟩ | ⟨h1, k, rfl, h2⟩
  · have hb : by_ ≤ 140737488355328 := by simpa using hl
    refine ⟨.sl sz h.length 0 1 1 false, h ++ [.arr sz [f z] true false], fun k => ?_, .inr ⟨by simp, h.length, rfl, by simp⟩, by simp, fun j o hj _ => get_app hj, .inr rfl⟩
    simp [appE, readSl, hm, hz, hb, effK, ap]
  · have hkl := (List.getElem?_eq_some_iff.1 h2).1
    refine ⟨.sl sz k 0 (l ++ [z]).length (l ++ [z]).length false, h.set k (.arr sz ((l ++ [z]).map f) true false), fun k' => ?_, .inr ⟨by simp, k, rfl, by simp [hkl]⟩, by simp, fun j o hj hn => ?_, .inl rfl⟩
    · simp [appE, readSl, hm, h2, hz, hl, effK, ap]
    · have hkj : k ≠ j := by rintro rfl; exact hn rfl
      rw [List.getElem?_set_ne hkj]; exact hj
end
/-- Of arguments that lie in the heap, or are written otherwise; the answer of numbers alone. -/
theorem closedX_scal' {shp shr : List Sh} {F : Fun} {h : Hp} {args as' asl : List AV} {v : AV} {h0 : Hp} (ha : cvts false h args = some as') (hn : nrms shp as' = nrms shp asl) (hp : plains asl = true) (hF : closedX shp shr F asl h0 = some (v, h0)) (hs : scal v = true) : closedX shp shr F args h = some (v, h) := by
  unfold closedX at hF ⊢
  rw [cvts_plain hp] at hF
  rw [ha]
  dsimp only at hF ⊢
  rw [hn]
  split at hF <;> try (simp at hF; done)
  rename_i w g hR
  split at hF <;> try (simp at hF; done)
  rename_i w' hw
  simp only [Option.some.injEq, Prod.mk.injEq] at hF
  obtain ⟨rfl, -⟩ := hF
  rw [hp, Bool.not_true] at hw
  have hw2 : ∀ st, cvt st g w = some w' := fun st => by
    cases st with
    | false => exact hw
    | true => exact cvt_scal hw (nrmR_scal hs)
  rw [hw2]
/-- The same, as an effect. -/
theorem Gro.snocE {α : Type} {sz : Nat} {f : α → List AV} {h : Hp} {v : AV} {l : List α} (O : Gro sz f h v l) {by_ m : Nat} {z : α} {b : Bool} (hm : h[m]? = some (.arr sz [f z] true false)) (hv : idOf v ≠ some m) (hf : ∀ x ∈ z :: l, (f x).length = sz) (hl : (l.length + 1) * by_ ≤ 140737488355328) :
    ∃ v' e, appE sz by_ v (.sl sz m 0 1 1 b) h h.length = some (v', e) ∧ Gro sz f (ap h e) v' (l ++ [z]) ∧ h.length ≤ (ap h e).length ∧ (∀ j o, h[j]? = some o → idOf v ≠ some j → (ap h e)[j]? = some o) ∧ (idOf v' = idOf v ∨ idOf v' = some h.length) := by
  have hz : (f z).length = sz := hf z (by simp)
  rcases O with ⟨rfl, rfl⟩ | ⟨h1, k, rfl, h2⟩
  · have hb : by_ ≤ 140737488355328 := by simpa using hl
    refine ⟨.sl sz h.length 0 1 1 false, ⟨[], [.arr sz [f z] true false], [m]⟩, by simp [appE, readSl, hm, hz, hb, idsOf], .inr ⟨by simp, h.length, rfl, by simp [ap]⟩, by simp [ap], fun j o hj _ => by simpa [ap] using get_app hj, .inr rfl⟩
  · have hkl := (List.getElem?_eq_some_iff.1 h2).1
    refine ⟨.sl sz k 0 (l ++ [z]).length (l ++ [z]).length false, ⟨[(k, .arr sz ((l ++ [z]).map f) true false)], [], [k, m]⟩, by simp [appE, readSl, hm, h2, hz, hl, idsOf], .inr ⟨by simp, k, rfl, by simp [ap, hkl]⟩, by simp [ap], fun j o hj hn => ?_, .inl rfl⟩
    have hkj : k ≠ j := by rintro rfl; exact hn rfl
    simp only [ap, List.foldl_cons, List.foldl_nil, List.append_nil]
    rw [List.getElem?_set_ne hkj]; exact hj
end Go.AM

/- drawback: DrawbackOthers. -/
namespace Go.AM
open Go.Proofs
set_option linter.unusedVariables false
set_option linter.unusedSimpArgs false
set_option linter.constructorNameAsVariable false
set_option maxRecDepth 20000
def few (m n : Nat) : Bool := (decide (m ≤ 8) || decide (m = 65)) && (decide (n ≤ 12) || decide (n = 65))
theorem F_ref48_Few_val (l : List Paid) (claims : List Claim) (b1 b2 : Bool) (h : Hp) : F_ref48_Few [.lst 5 b1 (l.map encP), .lst 3 b2 (claims.map encC)] h = some (B (few l.length claims.length), h) := by
  refine F_ref48_Few_run rfl ?_ h
  have e1 : ∀ m : Nat, ((m : Int) = 65) = (m = 65) := fun m => by simp; omega
  have e2 : ∀ m : Nat, ((m : Int) ≤ 8) = (m ≤ 8) := fun m => by simp; omega
  have e3 : ∀ m : Nat, ((m : Int) ≤ 12) = (m ≤ 12) := fun m => by simp; omega
  have e4 : ∀ m : Nat, ((m : Int) == 65) = decide (m = 65) := fun m => by rw [Bool.eq_iff_iff]; simp; omega
  simp [f_ref48_Few, few, e1, e2, e3, e4]
theorem few_bd {m n : Nat} (h : few m n = true) : m ≤ 65 ∧ n ≤ 65 := by simp [few] at h; omega
/-- The claims for one paid duty, and their refunds. -/
def ownOf (id : Int) (cs : List Claim) : List Claim := cs.filter fun c => decide (c.paid = id)
def pick (id : Int) (cs : List Claim) (r : List Int) : List Int := ((cs.zip r).filter fun x => decide (x.1.paid = id)).map (·.2)
theorem stepErr_congr {paid : Int → Option Paid} {cl cl' : Int → Int} {last last' limit : Int} {c : Claim} (h1 : cl' c.paid = cl c.paid) (h2 : last' ≤ last) (h : stepErr paid cl last limit c = 0) : stepErr paid cl' last' limit c = 0 := by
  unfold stepErr at h ⊢
  split at h
  · simp at h
  · split at h
    · simp at h
    · rename_i q1 q2
      rw [if_neg q1, if_neg (by omega), h1]
      exact h
theorem runC_own {l : List Paid} {limit id : Int} : ∀ (cs ahead ahead' : List Claim) (r : List Int), runC l limit ahead cs = .inr r → claimedL ahead' id = claimedL ahead id → lastL ahead' ≤ lastL ahead → runC l limit ahead' (ownOf id cs) = .inr (pick id cs r)
  | [], ahead, ahead', r, h, _, _ => by
    simp only [runC, Sum.inr.injEq] at h
    subst h
    rfl
  | c :: cs, ahead, ahead', r, h, h1, h2 => by
    simp only [runC] at h
    by_cases he : errC l limit ahead c = 0
    · rw [if_pos he] at h
      cases hr : runC l limit (ahead ++ [c]) cs with
      | inl e => rw [hr] at h; simp at h
      | inr r' =>
        rw [hr] at h
        simp only [Sum.inr.injEq] at h
        subst h
        obtain ⟨p, hp, q1, q2, q3, q4, -⟩ := err0 he
        by_cases hc : c.paid = id
        · have h1' : claimedL ahead' c.paid = claimedL ahead c.paid := by rw [hc]; exact h1
          have he' : errC l limit ahead' c = 0 := stepErr_congr h1' h2 he
          have hf : refundC l ahead' c = refundC l ahead c := by unfold refundC; rw [h1']
          have ih := runC_own (id := id) cs (ahead ++ [c]) (ahead' ++ [c]) r' hr (by rw [claimedL_snoc, claimedL_snoc, h1]) (by rw [lastL_snoc, lastL_snoc]; omega)
          have e1 : ownOf id (c :: cs) = c :: ownOf id cs := by simp [ownOf, hc]
          have e2 : pick id (c :: cs) (refundC l ahead c :: r') = refundC l ahead c :: pick id cs r' := by simp [pick, hc]
          rw [e1, e2]
          simp only [runC]
          rw [if_pos he', ih, hf]
        · have e1 : ownOf id (c :: cs) = ownOf id cs := by simp [ownOf, hc]
          have e2 : pick id (c :: cs) (refundC l ahead c :: r') = pick id cs r' := by simp [pick, hc]
          rw [e1, e2]
          exact runC_own cs (ahead ++ [c]) ahead' r' hr (by rw [claimedL_snoc, if_neg (fun e => hc e.symm), h1]) (by rw [lastL_snoc]; omega)
    · rw [if_neg he] at h; simp at h
theorem refundS_own {l : List Paid} {claims : List Claim} {limit : Int} {r : List Int} (h : carryS l claims limit = .inr r) (id : Int) : refundS l (ownOf id claims) limit = (pick id claims r, -1, 0) := by
  obtain ⟨h1, h2, h3, h4⟩ := carryS_inr h
  have h5 := runC_own (id := id) claims [] [] r h4 rfl (Int.le_refl _)
  have h6 : (ownOf id claims).length ≤ 64 := Nat.le_trans (List.length_filter_le _ _) h3
  have h7 : ¬ 64 < (ownOf id claims).length := by omega
  unfold refundS carryS
  rw [if_neg (by simp [h1]), if_neg (by simp [h2]), if_neg h7, h5]
section
variable {β : Type} {P : Program} {T : Tab} {D : DTab} {N : Nat} {K : AV → Hp → Option β} {x0 : AV → AV → AV → AV → Hp → Option β}
theorem others_L2 (claims : List Claim) (r : List Int) (hr : r.length = claims.length) (hn : claims.length ≤ 65) (b1 b2 : Bool) (v0 v2 : AV) (id : Int) : ∀ (n : Nat) (pre post : List Claim) (rp rq : List Int) (v w : AV) (h : Hp), claims = pre ++ post → r = rp ++ rq → rp.length = pre.length → post.length < n →
    Gro 3 encC h v (ownOf id pre) → Gro 1 encI h w (pick id pre rp) → (∀ k, idOf v = some k → idOf w ≠ some k) →
    ∃ v' w' h', f_law48_DrawbackOthers_L2 Try.prog T D N x0 n v0 v2 (I id) (.lst 1 b1 (r.map encI)) v w (.lst 3 b2 (claims.map encC)) (I claims.length) (I pre.length) h = x0 v0 v2 v' w' h' ∧ Gro 3 encC h' v' (ownOf id claims) ∧ Gro 1 encI h' w' (pick id claims r) := by
  intro n
  induction n with
  | zero => intro pre post rp rq v w h _ _ _ h1; omega
  | succ n ih =>
    intro pre post rp rq v w h hc hrr hl hpn G1 G2 hs
    have e0 : f_law48_DrawbackOthers_L2 Try.prog T D N x0 (n + 1) v0 v2 (I id) (.lst 1 b1 (r.map encI)) v w (.lst 3 b2 (claims.map encC)) (I claims.length) (I pre.length) h = f_law48_DrawbackOthers_b2 Try.prog T D N (f_law48_DrawbackOthers_L2 Try.prog T D N x0 n) x0 v0 v2 (I id) (.lst 1 b1 (r.map encI)) v w (.lst 3 b2 (claims.map encC)) (I claims.length) (I pre.length) h := rfl
    rw [e0]
    cases post with
    | nil =>
      have hcl : claims = pre := by simpa using hc
      subst hcl
      have hrq : rq = [] := by
        have := congrArg List.length hrr; simp at this; exact List.eq_nil_of_length_eq_zero (by omega)
      subst hrq
      have hre : r = rp := by simpa using hrr
      subst hre
      exact ⟨v, w, h, by simp [f_law48_DrawbackOthers_b2], G1, G2⟩
    | cons c post =>
      cases rq with
      | nil => have := congrArg List.length hrr; have := congrArg List.length hc; simp at *; omega
      | cons x rq =>
        have hi : pre.length < claims.length := by rw [hc]; simp
        have hx : claims[pre.length]? = some c := by rw [hc]; simp
        have hy : r[pre.length]? = some x := by rw [hrr, ← hl]; simp
        have hlt : ((pre.length : Int) < (claims.length : Int)) := by omega
        have hw : IntKind.i64.wrap ((pre.length : Int) + 1) = (((pre ++ [c]).length : Nat) : Int) := by rw [wrap64 (by omega) (by omega)]; simp
        have step := ih (pre ++ [c]) post (rp ++ [x]) rq
        by_cases hcid : c.paid = id
        · have e1 : ownOf id (pre ++ [c]) = ownOf id pre ++ [c] := by simp [ownOf, hcid]
          have e2 : pick id (pre ++ [c]) (rp ++ [x]) = pick id pre rp ++ [x] := by simp [pick, List.zip_append hl.symm, hcid]
          have hol : (ownOf id pre).length ≤ pre.length := List.length_filter_le _ _
          have hpl : (pick id pre rp).length ≤ pre.length := by
            unfold pick; rw [List.length_map]; refine Nat.le_trans (List.length_filter_le _ _) ?_; simp; omega
          obtain ⟨v', h3, k1, k2, k3, k4, k5⟩ := (G1.app [.arr 3 [encC c] true false, .arr 3 [encC c] true false]).snoc β (by_ := 24) (m := h.length + 1) (z := c) (b := true) (by simp) (fun e => by have := G1.lt e; omega) (by intro y _; rfl) (by omega)
          have G2' : Gro 1 encI h3 w (pick id pre rp) := (G2.app _).keep fun k o hk ho => k4 k o ho (fun e => hs k e hk)
          obtain ⟨w', h5, m1, m2, m3, m4, m5⟩ := (G2'.app [.arr 1 [encI x] true false]).snoc β (by_ := 8) (m := h3.length) (z := x) (b := true) (by simp) (fun e => by have := G2'.lt e; omega) (by intro y _; rfl) (by omega)
          have hwlt : ∀ k, idOf w = some k → k < h.length := fun k hk => G2.lt hk
          simp at k3 k5 m3 m5
          have G1' : Gro 3 encC h5 v' (ownOf id pre ++ [c]) := (k2.app [.arr 1 [encI x] true false]).keep fun k o hk ho => m4 k o ho (fun e => by
            rcases k5 with k5 | k5
            · exact hs k (k5 ▸ hk) e
            · rw [k5] at hk; simp at hk; have := hwlt k e; omega)
          obtain ⟨v2', w2', h2', r1, r2, r3⟩ := step v' w' h5 (by simpa using hc) (by simpa using hrr) (by simp [hl]) (by simpa using hpn) (by rw [e1]; exact G1') (by rw [e2]; exact m2) (by
            intro k hk hk2
            rcases m5 with m5 | m5
            · rw [m5] at hk2
              rcases k5 with k5 | k5
              · exact hs k (k5 ▸ hk) hk2
              · rw [k5] at hk; simp at hk; have := hwlt k hk2; omega
            · rw [m5] at hk2; simp at hk2; have := k2.lt hk; omega)
          refine ⟨v2', w2', h2', ?_, r2, r3⟩
          rw [← r1]
          simp [encC, encI, hcid] at k1 m1
          simp [f_law48_DrawbackOthers_b2, hlt, hx, hy, encC, encI, boxE, hcid, bsE, fillS, k1, m1, f_law48_DrawbackOthers_j4, f_law48_DrawbackOthers_j3, hw]
        · have e1 : ownOf id (pre ++ [c]) = ownOf id pre := by simp [ownOf, hcid]
          have e2 : pick id (pre ++ [c]) (rp ++ [x]) = pick id pre rp := by simp [pick, List.zip_append hl.symm, hcid]
          obtain ⟨v2', w2', h2', r1, r2, r3⟩ := step v w (h ++ [.arr 3 [encC c] true false]) (by simpa using hc) (by simpa using hrr) (by simp [hl]) (by simpa using hpn) (by rw [e1]; exact G1.app _) (by rw [e2]; exact G2.app _) hs
          refine ⟨v2', w2', h2', ?_, r2, r3⟩
          rw [← r1]
          simp [f_law48_DrawbackOthers_b2, hlt, hx, hy, encC, boxE, hcid, f_law48_DrawbackOthers_j4, f_law48_DrawbackOthers_j3, hw]
end
theorem F_drawback_Refund_any (l : List Paid) (claims : List Claim) (b1 b2 : Bool) (limit : Int) (h : Hp) {x0 x1 a0 a1 : AV} (ha : cvts false h [x0, x1, I limit] = some [a0, a1, I limit]) (n0 : nrm (.l 5) a0 = .lst 5 b1 (l.map encP)) (n1 : nrm (.l 3) a1 = .lst 3 b2 (claims.map encC)) : F_drawback_Refund [x0, x1, I limit] h =
    some (.tup [SL 1 encI (refundS l claims limit).1.isEmpty (refundS l claims limit).1, I (refundS l claims limit).2.1, I (refundS l claims limit).2.2], h) := by
  have hc := carry_val l claims b1 b2 limit
  unfold refundS
  revert hc
  cases hS : carryS l claims limit with
  | inl je =>
    rintro ⟨h1, H, h2⟩
    refine (F_drawback_Refund_own (v := .tup [nilS, I je.1, I je.2]) ha (fun st => ?_)).trans rfl
    rw [n0, n1]
    simp [f_drawback_Refund, h2]
  | inr r =>
    rintro ⟨v, kp, kc, g, h1, O, -⟩
    obtain ⟨w, hw, q1⟩ := O.cvts (.map kp) (.map kc) (fileO (lastL claims) limit)
    refine (F_drawback_Refund_own (v := .tup [w, I (-1), I 0]) ha (fun st => ?_)).trans ?_
    · rw [n0, n1]
      simp [f_drawback_Refund, h1, hw]
    · show some (AV.tup [nrm (.l 1) w, I (-1), I 0], h) = _
      rw [q1]
theorem F_slices_Equal_int_any (xs ys : List Int) (b1 b2 : Bool) (hb : xs.length < 1000000) (hy : ys.length < 1000000) (h : Hp) {x0 x1 a0 a1 : AV} (ha : cvts false h [x0, x1] = some [a0, a1]) (n0 : nrm (.l 1) a0 = .lst 1 b1 (xs.map encI)) (n1 : nrm (.l 1) a1 = .lst 1 b2 (ys.map encI)) : F_slices_Equal_int [x0, x1] h = some (B (decide (xs = ys)), h) :=
  closedX_scal' ha (by simp only [nrms, n0, n1]; rfl) rfl (F_slices_Equal_int_val xs ys b1 b2 hb hy []) rfl
theorem carryS_inl {l : List Paid} {claims : List Claim} {limit : Int} {je : Int × Int} (h : carryS l claims limit = .inl je) : je.2 ≠ 0 := by
  have := carry_val l claims false false limit
  rw [h] at this
  exact this.1
theorem others_law (l : List Paid) (b1 : Bool) (claims : List Claim) (b2 : Bool) (limit id : Int) : F_law48_DrawbackOthers [SL 5 encP b1 l, SL 3 encC b2 claims, I limit, I id] [] = some (B true, []) := by
  refine F_law48_DrawbackOthers_run rfl ?_ []
  cases hf : few l.length claims.length with
  | false => simp [f_law48_DrawbackOthers, F_law48_awake_val, F_ref48_Few_val, hf]
  | true =>
    obtain ⟨m1, m2⟩ := few_bd hf
    have c1 := F_slices_Clone_Paid_val l b1 (by omega)
    have c2 := F_slices_Clone_Claim_val claims b2 (by omega)
    have rf := F_drawback_Refund_val l claims
    cases hS : carryS l claims limit with
    | inl je =>
      have he := carryS_inl hS
      have e1 : refundS l claims limit = ([], je.1, je.2) := by simp [refundS, hS]
      simp [f_law48_DrawbackOthers, F_law48_awake_val, F_ref48_Few_val, hf, c1, c2, rf, e1, he]
    | inr r =>
      obtain ⟨g1, g2, g3, g4, g5⟩ := carryS_within hS
      have e1 : refundS l claims limit = (r, -1, 0) := by simp [refundS, hS]
      obtain ⟨v', w', h', k1, k2, k3⟩ := others_L2 (T := t_law48_DrawbackOthers) (D := d_law48_DrawbackOthers) (N := NN) (x0 := fun w66_0 w66_2 w66_12 w66_13 h => f_law48_DrawbackOthers_j1 Try.prog t_law48_DrawbackOthers d_law48_DrawbackOthers NN (fun v g => cvt false g v) w66_0 w66_2 w66_12 w66_13 h)
        claims r g3 m2 (r.isEmpty && r.isEmpty) (b2 && claims.isEmpty) (SL 5 encP b1 l) (I limit) id NN [] claims [] r nilS nilS [] rfl rfl rfl (by have := NN_ge; omega) .nil .nil (by simp)
      obtain ⟨y1, p1, p2⟩ := k2.cvts (by intro x st; cases st <;> rfl)
      obtain ⟨y2, p3, p4⟩ := k3.cvts (by intro x st; cases st <;> rfl)
      have e2 := F_drawback_Refund_any l (ownOf id claims) (b1 && l.isEmpty) (ownOf id claims).isEmpty limit h' (x0 := SL 5 encP b1 l) (x1 := v') (a0 := SL 5 encP b1 l) (a1 := y1) (by simp [Go.AM.cvts, p1]) rfl p2
      rw [refundS_own hS id] at e2
      have e3 := F_slices_Equal_int_any (pick id claims r) (pick id claims r) ((pick id claims r).isEmpty && (pick id claims r).isEmpty) (pick id claims r).isEmpty (by
        have : (pick id claims r).length ≤ r.length := by
          unfold pick; rw [List.length_map]; refine Nat.le_trans (List.length_filter_le _ _) ?_; simp; omega
        omega) (by
        have : (pick id claims r).length ≤ r.length := by
          unfold pick; rw [List.length_map]; refine Nat.le_trans (List.length_filter_le _ _) ?_; simp; omega
        omega) h' (x0 := SL 1 encI (pick id claims r).isEmpty (pick id claims r)) (x1 := w') (a0 := SL 1 encI (pick id claims r).isEmpty (pick id claims r)) (a1 := y2) (by simp [Go.AM.cvts, p3]) rfl p4
      have e4 : ((r.length : Int) = (claims.length : Int)) := by omega
      simp [f_law48_DrawbackOthers, F_law48_awake_val, F_ref48_Few_val, hf, c1, c2, rf, e1, e4]
      refine k1.trans ?_
      simp at e2 e3
      simp [f_law48_DrawbackOthers_j1, c1, e2, e3]
end Go.AM

/- drawback: sums of refunds. -/
namespace Go.AM
open Go.Proofs
set_option linter.unusedVariables false
set_option linter.unusedSimpArgs false
set_option linter.constructorNameAsVariable false
set_option maxRecDepth 20000
theorem partOf_eq (p : Paid) (n : Int) (hb : badP p = false) (h1 : 0 ≤ n) (h2 : n ≤ p.alc) : partOf p n = p.duty * n / p.alc := by
  simp [badP, win] at hb
  have q : p.duty * n / p.alc ≤ p.duty := by
    refine Int.le_trans (Int.ediv_le_ediv (by omega) (Int.mul_le_mul_of_nonneg_left h2 (by omega))) ?_
    rw [Int.mul_ediv_cancel _ (by omega)]; omega
  have q2 : p.duty * n / p.alc ≤ 128849018880000 := by omega
  have hm : (amt p.duty && amt n && amt p.alc) = true := by simp [amt]; omega
  unfold partOf propOf
  rw [hm]
  simp [show ¬ p.alc = 0 by omega, q2]
theorem partOf_mono (p : Paid) (m n : Int) (hb : badP p = false) (h1 : 0 ≤ m) (h2 : m ≤ n) (h3 : n ≤ p.alc) : 0 ≤ partOf p m ∧ partOf p m ≤ partOf p n ∧ partOf p n ≤ p.duty := by
  rw [partOf_eq p m hb h1 (by omega), partOf_eq p n hb (by omega) h3]
  simp [badP, win] at hb
  refine ⟨Int.ediv_nonneg (Int.mul_nonneg (by omega) h1) (by omega), Int.ediv_le_ediv (by omega) (Int.mul_le_mul_of_nonneg_left h2 (by omega)), ?_⟩
  refine Int.le_trans (Int.ediv_le_ediv (by omega) (Int.mul_le_mul_of_nonneg_left h3 (by omega))) ?_
  rw [Int.mul_ediv_cancel _ (by omega)]; omega
theorem pick_cons (id : Int) (c : Claim) (cs : List Claim) (x : Int) (r : List Int) : pick id (c :: cs) (x :: r) = if c.paid = id then x :: pick id cs r else pick id cs r := by
  by_cases h : c.paid = id <;> simp [pick, h]
theorem claimedL_app (a b : List Claim) (n : Int) : claimedL (a ++ b) n = claimedL a n + claimedL b n := by
  induction a with
  | nil => simp [claimedL]
  | cons c a ih => simp only [List.cons_append, claimedL, ih]; omega
/-- The refunds for one paid duty. -/
theorem runC_sum {l : List Paid} {limit id : Int} {p : Paid} (hl : ∀ p ∈ l, badP p = false) (hp : paidL l id = some p) : ∀ (cs ahead : List Claim) (r : List Int), Within l ahead → runC l limit ahead cs = .inr r →
    (pick id cs r).sum = partOf p (claimedL (ahead ++ cs) id) - partOf p (claimedL ahead id) ∧ (∀ x ∈ pick id cs r, 0 ≤ x ∧ x ≤ p.duty) ∧ (∀ c ∈ cs, 0 ≤ c.alc ∧ c.alc ≤ 10737418240000 ∧ (paidL l c.paid).isSome = true)
  | [], ahead, r, W, h => by
    simp only [runC, Sum.inr.injEq] at h
    subst h
    simp [pick]
  | c :: cs, ahead, r, W, h => by
    simp only [runC] at h
    by_cases he : errC l limit ahead c = 0
    · rw [if_pos he] at h
      cases hr : runC l limit (ahead ++ [c]) cs with
      | inl e => rw [hr] at h; simp at h
      | inr r' =>
        rw [hr] at h
        simp only [Sum.inr.injEq] at h
        subst h
        obtain ⟨p', hp', q1, q2, q3, q4, -⟩ := err0 he
        obtain ⟨s1, s2, s3⟩ := runC_sum hl hp cs (ahead ++ [c]) r' (W.snoc he) hr
        have e1 : ahead ++ [c] ++ cs = ahead ++ c :: cs := by simp
        rw [e1] at s1
        rw [pick_cons]
        by_cases hc : c.paid = id
        · have hpp : p' = p := by rw [hc, hp] at hp'; exact (Option.some.inj hp').symm
          subst hpp
          have hb := hl p' (paidL_mem hp).1
          have hw := W _ _ hp
          rw [hc] at q3
          have hf : refundC l ahead c = partOf p' (claimedL ahead id + c.alc) - partOf p' (claimedL ahead id) := by simp [refundC, hc, hp]
          have hm := partOf_mono p' (claimedL ahead id) (claimedL ahead id + c.alc) hb (by omega) (by omega) (by omega)
          rw [claimedL_snoc, if_pos hc.symm] at s1
          rw [if_pos hc]
          refine ⟨by rw [List.sum_cons, s1, hf]; omega, ?_, ?_⟩
          · intro x hx
            rcases List.mem_cons.1 hx with rfl | hx
            · rw [hf]; omega
            · exact s2 x hx
          · intro d hd
            rcases List.mem_cons.1 hd with rfl | hd
            · exact ⟨by omega, by omega, by rw [hp']; rfl⟩
            · exact s3 d hd
        · rw [claimedL_snoc, if_neg (fun e => hc e.symm)] at s1
          rw [if_neg hc]
          refine ⟨s1, s2, ?_⟩
          intro d hd
          rcases List.mem_cons.1 hd with rfl | hd
          · exact ⟨by omega, by omega, by rw [hp']; rfl⟩
          · exact s3 d hd
    · rw [if_neg he] at h; simp at h
theorem sum_ite (l : List Paid) (hs : l.Pairwise (fun a b => a.id < b.id)) (n x : Int) (h : ∃ p ∈ l, p.id = n) : (l.map fun p => if n = p.id then x else 0).sum = x := by
  induction l with
  | nil => simp at h
  | cons q l ih =>
    obtain ⟨h1, h2⟩ := List.pairwise_cons.1 hs
    rw [List.map_cons, List.sum_cons]
    by_cases hq : n = q.id
    · rw [if_pos hq]
      have : (l.map fun p => if n = p.id then x else 0).sum = 0 := by
        have : ∀ p ∈ l, (if n = p.id then x else 0) = 0 := fun p hp => by rw [if_neg]; have := h1 p hp; omega
        clear ih h hs h1 h2
        induction l with
        | nil => rfl
        | cons a l ih => rw [List.map_cons, List.sum_cons, this a (by simp), ih (fun p hp => this p (by simp [hp]))]; rfl
      omega
    · rw [if_neg hq, ih h2]
      · omega
      · obtain ⟨p, hp, he⟩ := h
        rcases List.mem_cons.1 hp with rfl | hp
        · exact absurd he.symm hq
        · exact ⟨p, hp, he⟩
theorem sum_add (l : List Paid) (f g : Paid → Int) : (l.map fun p => f p + g p).sum = (l.map f).sum + (l.map g).sum := by
  induction l with
  | nil => rfl
  | cons a l ih => simp only [List.map_cons, List.sum_cons, ih]; omega
theorem sum_pick (l : List Paid) (hs : l.Pairwise (fun a b => a.id < b.id)) : ∀ (cs : List Claim) (r : List Int), r.length = cs.length → (∀ c ∈ cs, (paidL l c.paid).isSome = true) → (l.map fun p => (pick p.id cs r).sum).sum = r.sum
  | [], r, hr, _ => by
    have : r = [] := List.eq_nil_of_length_eq_zero (by simpa using hr)
    subst this
    have : (fun p : Paid => (pick p.id [] []).sum) = fun _ => 0 := rfl
    rw [this]
    induction l with
    | nil => rfl
    | cons a l ih => rw [List.map_cons, List.sum_cons, ih (List.pairwise_cons.1 hs).2 (by simp)]; rfl
  | c :: cs, [], hr, _ => by simp at hr
  | c :: cs, x :: r, hr, h => by
    have e : (fun p : Paid => (pick p.id (c :: cs) (x :: r)).sum) = fun p => (if c.paid = p.id then x else 0) + (pick p.id cs r).sum := by
      funext p
      rw [pick_cons]
      split <;> simp
    rw [e, sum_add, sum_pick l hs cs r (by simpa using hr) (fun d hd => h d (by simp [hd])), sum_ite l hs, List.sum_cons]
    obtain ⟨p, hp⟩ := Option.isSome_iff_exists.1 (h c (by simp))
    exact ⟨p, paidL_mem hp⟩
theorem paidL_of_mem {l : List Paid} (hs : l.Pairwise (fun a b => a.id < b.id)) {p : Paid} (hp : p ∈ l) : paidL l p.id = some p := by
  unfold paidL
  induction l with
  | nil => simp at hp
  | cons q l ih =>
    obtain ⟨h1, h2⟩ := List.pairwise_cons.1 hs
    rcases List.mem_cons.1 hp with rfl | hp
    · simp
    · have := h1 p hp
      rw [List.find?_cons_of_neg (by simp; omega)]
      exact ih h2 hp
end Go.AM

/- drawback: DrawbackSums. -/
namespace Go.AM
open Go.Proofs
set_option linter.unusedVariables false
set_option linter.unusedSimpArgs false
set_option linter.constructorNameAsVariable false
set_option maxRecDepth 20000
theorem G_slices_Clone_Paid_val (l : List Paid) (b : Bool) (hl : l.length < 1000000) (h : Hp) (base : Nat) : G_slices_Clone_Paid [SL 5 encP b l] h base = some (SL 5 encP b l, EF []) := (closedXD_val (F_slices_Clone_Paid_val l b hl h) base).trans (by simp [idss, ids])
theorem G_slices_Clone_Claim_val (l : List Claim) (b : Bool) (hl : l.length < 1000000) (h : Hp) (base : Nat) : G_slices_Clone_Claim [SL 3 encC b l] h base = some (SL 3 encC b l, EF []) := (closedXD_val (F_slices_Clone_Claim_val l b hl h) base).trans (by simp [idss, ids])
theorem G_drawback_Left_val (l : List Paid) (claims : List Claim) (b1 b2 : Bool) (limit id : Int) (h : Hp) (base : Nat) : G_drawback_Left [.lst 5 b1 (l.map encP), .lst 3 b2 (claims.map encC), I limit, I id] h base =
    some (.tup [I (leftS l claims limit id).1, I (leftS l claims limit id).2.1, I (leftS l claims limit id).2.2], EF []) := (closedXD_val (F_drawback_Left_val l claims b1 b2 limit id h) base).trans (by simp [idss, ids])
section
variable {β : Type} {P : Program} {T : Tab} {D : DTab} {N : Nat} {K : AV → Hp → Option β}
theorem sums_L5 {x2 : AV → AV → AV → AV → AV → AV → AV → AV → AV → AV → AV → Hp → Option β} {xr : AV → Hp → Option β} (claims : List Claim) (r : List Int) (hn : claims.length ≤ 65) (b1 b2 : Bool) (v0 v1 v2 v53 v54 v55 : AV) (p : Paid) (hd : 0 ≤ p.duty ∧ p.duty ≤ 1099511627776)
    (hx : ∀ x ∈ pick p.id claims r, 0 ≤ x ∧ x ≤ p.duty) (hca : ∀ c ∈ claims, 0 ≤ c.alc ∧ c.alc ≤ 10737418240000) (pb : Nat) : ∀ (n : Nat) (pre post : List Claim) (rp rq : List Int) (tot alc duty : Int) (h : Hp), claims = pre ++ post → r = rp ++ rq → rp.length = pre.length → rq.length = post.length → post.length < n →
    h[pb]? = some (.arr 5 [encP p] true false) → (0 ≤ tot ∧ tot + post.length * 17592186044416 ≤ 4611686018427387904) → (0 ≤ alc ∧ alc + post.length * 17592186044416 ≤ 4611686018427387904) → (0 ≤ duty ∧ duty + post.length * 17592186044416 ≤ 4611686018427387904) → (∀ x ∈ pick p.id post rq, 0 ≤ x ∧ x ≤ p.duty) →
    ∃ h', f_law48_DrawbackSums_L5 Try.prog T D N x2 xr n v0 v1 v2 (.lst 1 b1 (r.map encI)) (I tot) (.ptr pb 0 0 1) (I alc) (I duty) v53 v54 v55 (.lst 3 b2 (claims.map encC)) (I claims.length) (I pre.length) h =
      x2 v0 v1 v2 (.lst 1 b1 (r.map encI)) (I (tot + (pick p.id post rq).sum)) (.ptr pb 0 0 1) (I (alc + claimedL post p.id)) (I (duty + (pick p.id post rq).sum)) v53 v54 v55 h' ∧ h'[pb]? = some (.arr 5 [encP p] true false) := by
  intro n
  induction n with
  | zero => intro pre post rp rq tot alc duty h _ _ _ _ h1; omega
  | succ n ih =>
    intro pre post rp rq tot alc duty h hc hrr hl hl2 hpn hpb ht ha hdu hxx
    have e0 : f_law48_DrawbackSums_L5 Try.prog T D N x2 xr (n + 1) v0 v1 v2 (.lst 1 b1 (r.map encI)) (I tot) (.ptr pb 0 0 1) (I alc) (I duty) v53 v54 v55 (.lst 3 b2 (claims.map encC)) (I claims.length) (I pre.length) h =
      f_law48_DrawbackSums_b5 Try.prog T D N (f_law48_DrawbackSums_L5 Try.prog T D N x2 xr n) x2 xr v0 v1 v2 (.lst 1 b1 (r.map encI)) (I tot) (.ptr pb 0 0 1) (I alc) (I duty) v53 v54 v55 (.lst 3 b2 (claims.map encC)) (I claims.length) (I pre.length) h := rfl
    rw [e0]
    cases post with
    | nil =>
      have hcl : claims = pre := by simpa using hc
      subst hcl
      have hrq : rq = [] := List.eq_nil_of_length_eq_zero (by simpa using hl2)
      subst hrq
      exact ⟨h, by simp [f_law48_DrawbackSums_b5, pick, claimedL], hpb⟩
    | cons c post =>
      cases rq with
      | nil => simp at hl2
      | cons x rq =>
        have hi : pre.length < claims.length := by rw [hc]; simp
        have hxc : claims[pre.length]? = some c := by rw [hc]; simp
        have hy : r[pre.length]? = some x := by rw [hrr, ← hl]; simp
        have hlt : ((pre.length : Int) < (claims.length : Int)) := by omega
        have hw : IntKind.i64.wrap ((pre.length : Int) + 1) = (((pre ++ [c]).length : Nat) : Int) := by rw [wrap64 (by omega) (by omega)]; simp
        have step := ih (pre ++ [c]) post (rp ++ [x]) rq
        have hcc := hca c (by rw [hc]; simp)
        simp only [List.length_cons] at ht ha hdu
        have hg := fun y : List AObj => get_app (g := y) hpb
        simp only [encP] at hg
        by_cases hcid : c.paid = p.id
        · rw [pick_cons, if_pos hcid] at hxx ⊢
          have hx1 := hxx x (by simp)
          have e3 : claimedL (c :: post) p.id = c.alc + claimedL post p.id := by simp [claimedL, hcid]
          rw [List.sum_cons, e3]
          have w1 : IntKind.i64.wrap (tot + x) = tot + x := wrap64 (by omega) (by omega)
          have w2 : IntKind.i64.wrap (alc + c.alc) = alc + c.alc := wrap64 (by omega) (by omega)
          have w3 : IntKind.i64.wrap (duty + x) = duty + x := wrap64 (by omega) (by omega)
          obtain ⟨h', r1, r2⟩ := step (tot + x) (alc + c.alc) (duty + x) (h ++ [.arr 3 [encC c] true false]) (by simpa using hc) (by simpa using hrr) (by simp [hl]) (by simpa using hl2) (by simpa using hpn) (get_app hpb) (by omega) (by omega) (by omega) (fun y hy => hxx y (by simp [hy]))
          refine ⟨h', ?_, r2⟩
          rw [show tot + (x + (pick p.id post rq).sum) = tot + x + (pick p.id post rq).sum by omega, show alc + (c.alc + claimedL post p.id) = alc + c.alc + claimedL post p.id by omega, show duty + (x + (pick p.id post rq).sum) = duty + x + (pick p.id post rq).sum by omega, ← r1]
          have y1 : ¬ x < 0 := by omega
          have y2 : ¬ p.duty < x := by omega
          simp [f_law48_DrawbackSums_b5, hlt, hxc, hy, encC, encI, boxE, hg, hcid, y1, y2, f_law48_DrawbackSums_j7, f_law48_DrawbackSums_j6, hw, w1, w2, w3]
        · rw [pick_cons, if_neg hcid] at hxx ⊢
          have e3 : claimedL (c :: post) p.id = claimedL post p.id := by simp only [claimedL]; rw [if_neg (fun e : p.id = c.paid => hcid e.symm)]; omega
          rw [e3]
          obtain ⟨h', r1, r2⟩ := step tot alc duty (h ++ [.arr 3 [encC c] true false]) (by simpa using hc) (by simpa using hrr) (by simp [hl]) (by simpa using hl2) (by simpa using hpn) (get_app hpb) (by omega) (by omega) (by omega) hxx
          refine ⟨h', ?_, r2⟩
          rw [← r1]
          simp [f_law48_DrawbackSums_b5, hlt, hxc, hy, encC, encI, boxE, hg, hcid, f_law48_DrawbackSums_j7, f_law48_DrawbackSums_j6, hw]
theorem leftS_mem {l : List Paid} {claims : List Claim} {limit : Int} {r : List Int} (hS : carryS l claims limit = .inr r) {p : Paid} (hp : paidL l p.id = some p) : leftS l claims limit p.id = (p.alc - claimedL claims p.id, p.duty - partOf p (claimedL claims p.id), 0) := by
  simp [leftS, hS, hp]
theorem sums_L2 {x0 : AV → AV → AV → AV → Hp → Option β} {xr : AV → Hp → Option β} {l : List Paid} {claims : List Claim} {limit : Int} {r : List Int} (hS : carryS l claims limit = .inr r) (hl : l.length ≤ 65) (hn : claims.length ≤ 65) (b1 b2 b3 : Bool) : ∀ (n : Nat) (pre post : List Paid) (tot : Int) (h : Hp), l = pre ++ post → post.length < n → (0 ≤ tot ∧ tot ≤ pre.length * 1099511627776) →
    ∃ h', f_law48_DrawbackSums_L2 Try.prog T d_law48_DrawbackSums NN x0 xr n (SL 5 encP b1 l) (SL 3 encC b2 claims) (I limit) (.lst 1 b3 (r.map encI)) (I tot) (SL 5 encP b1 l) (I l.length) (I pre.length) h =
      x0 (SL 5 encP b1 l) (SL 3 encC b2 claims) (I limit) (I (tot + (post.map fun p => (pick p.id claims r).sum).sum)) h' := by
  obtain ⟨h1, h2, h3, h4⟩ := carryS_inr hS
  obtain ⟨c1, c2, c3⟩ := checkP_ok h1
  obtain ⟨w1, w2, w3, w4, w5⟩ := carryS_within hS
  intro n
  induction n with
  | zero => intro pre post tot h _ h1; omega
  | succ n ih =>
    intro pre post tot h hc hpn ht
    have e0 : f_law48_DrawbackSums_L2 Try.prog T d_law48_DrawbackSums NN x0 xr (n + 1) (SL 5 encP b1 l) (SL 3 encC b2 claims) (I limit) (.lst 1 b3 (r.map encI)) (I tot) (SL 5 encP b1 l) (I l.length) (I pre.length) h =
      f_law48_DrawbackSums_b2 Try.prog T d_law48_DrawbackSums NN (f_law48_DrawbackSums_L2 Try.prog T d_law48_DrawbackSums NN x0 xr n) x0 xr (SL 5 encP b1 l) (SL 3 encC b2 claims) (I limit) (.lst 1 b3 (r.map encI)) (I tot) (SL 5 encP b1 l) (I l.length) (I pre.length) h := rfl
    rw [e0]
    cases post with
    | nil =>
      have hcl : l = pre := by simpa using hc
      subst hcl
      exact ⟨h, by simp [f_law48_DrawbackSums_b2]⟩
    | cons p post =>
      have hpm : p ∈ l := by rw [hc]; simp
      have hp := paidL_of_mem c3 hpm
      have hb := c2 p hpm
      have hbd := okP_bd hb
      have hwi := w2 _ _ hp
      obtain ⟨s1, s2, s3⟩ := runC_sum c2 hp claims [] r (within_nil c2) h4
      have hz : claimedL [] p.id = 0 := rfl
      rw [List.nil_append, hz, partOf_zero, Int.sub_zero] at s1
      have hm := partOf_mono p (claimedL claims p.id) p.alc hb (by omega) (by omega) (by omega)
      rw [partOf_all p hb] at hm
      have hi : pre.length < l.length := by rw [hc]; simp
      have hx : l[pre.length]? = some p := by rw [hc]; simp
      have hlt : ((pre.length : Int) < (l.length : Int)) := by omega
      have hw : IntKind.i64.wrap ((pre.length : Int) + 1) = (((pre ++ [p]).length : Nat) : Int) := by rw [wrap64 (by omega) (by omega)]; simp
      obtain ⟨h', k1, k2⟩ := sums_L5 (T := T) (D := d_law48_DrawbackSums) (N := NN)
        (x2 := fun w119_0 w119_1 w119_2 w119_7 w119_10 w119_12 w119_13 w119_14 w119_53 w119_54 w119_55 h => f_law48_DrawbackSums_j4 Try.prog T d_law48_DrawbackSums NN (f_law48_DrawbackSums_L2 Try.prog T d_law48_DrawbackSums NN x0 xr n) x0 xr w119_0 w119_1 w119_2 w119_7 w119_10 w119_12 w119_13 w119_14 w119_53 w119_54 w119_55 h) (xr := fun w120_6 h => xr w120_6 h)
        claims r hn b3 (b2 && claims.isEmpty) (SL 5 encP b1 l) (SL 3 encC b2 claims) (I limit) (SL 5 encP b1 l) (I l.length) (I pre.length) p (by omega) s2 (fun c hc => ⟨(s3 c hc).1, (s3 c hc).2.1⟩) h.length NN [] claims [] r tot (p.alc - claimedL claims p.id) (p.duty - partOf p (claimedL claims p.id)) (h ++ [.arr 5 [encP p] true false]) rfl rfl rfl w3 (by have := NN_ge; omega) (by simp) (by omega) (by omega) (by omega) s2
      rw [s1] at k1
      obtain ⟨h2', r1⟩ := ih (pre ++ [p]) post (tot + partOf p (claimedL claims p.id)) h' (by simpa using hc) (by simpa using hpn) (by rw [List.length_append]; simp; omega)
      refine ⟨h2', Eq.trans ?_ (k1.trans (Eq.trans ?_ (r1.trans ?_)))⟩
      · have g1 := G_slices_Clone_Paid_val l b1 (by omega)
        have g2 := G_slices_Clone_Claim_val claims b2 (by omega)
        have g3 := G_drawback_Left_val l claims (b1 && l.isEmpty) (b2 && claims.isEmpty) limit p.id
        rw [leftS_mem hS hp] at g3
        have y1 : ¬ p.alc - claimedL claims p.id < 0 := by omega
        have y2 : ¬ p.duty - partOf p (claimedL claims p.id) < 0 := by omega
        simp [f_law48_DrawbackSums_b2, hlt, hx, encP, boxE, effD_y, disjAll, disj2, wrOf, idsOf, callE_F, g1, g2, g3, y1, y2]
      · have y3 : p.alc - claimedL claims p.id + claimedL claims p.id = p.alc := by omega
        have y4 : p.duty - partOf p (claimedL claims p.id) + partOf p (claimedL claims p.id) = p.duty := by omega
        have k2' := k2
        simp only [encP] at k2'
        simp only [f_law48_DrawbackSums_j4, y3, y4]
        simp [k2', f_law48_DrawbackSums_j3, hw]
      · rw [List.map_cons, List.sum_cons, s1]
        congr 2
        omega
end
end Go.AM

/- drawback: DrawbackSums, the law. -/
namespace Go.AM
open Go.Proofs
set_option linter.unusedVariables false
set_option linter.unusedSimpArgs false
set_option linter.constructorNameAsVariable false
set_option maxRecDepth 20000
theorem all_claims_known {l : List Paid} {limit : Int} : ∀ (cs ahead : List Claim) (r : List Int), runC l limit ahead cs = .inr r → ∀ c ∈ cs, (paidL l c.paid).isSome = true
  | [], _, _, _ => by simp
  | c :: cs, ahead, r, h => by
    simp only [runC] at h
    by_cases he : errC l limit ahead c = 0
    · rw [if_pos he] at h
      cases hr : runC l limit (ahead ++ [c]) cs with
      | inl e => rw [hr] at h; simp at h
      | inr r' =>
        obtain ⟨p', hp', -⟩ := err0 he
        intro d hd
        rcases List.mem_cons.1 hd with rfl | hd
        · rw [hp']; rfl
        · exact all_claims_known cs _ r' hr d hd
    · rw [if_neg he] at h; simp at h
theorem sums_law (l : List Paid) (b1 : Bool) (claims : List Claim) (b2 : Bool) (limit : Int) : F_law48_DrawbackSums [SL 5 encP b1 l, SL 3 encC b2 claims, I limit] [] = some (B true, []) := by
  refine F_law48_DrawbackSums_run rfl ?_ []
  cases hf : few l.length claims.length with
  | false => simp [f_law48_DrawbackSums, F_law48_awake_val, F_ref48_Few_val, hf]
  | true =>
    obtain ⟨m1, m2⟩ := few_bd hf
    have c1 := F_slices_Clone_Paid_val l b1 (by omega)
    have c2 := F_slices_Clone_Claim_val claims b2 (by omega)
    have rf := F_drawback_Refund_val l claims
    cases hS : carryS l claims limit with
    | inl je =>
      have he := carryS_inl hS
      have e1 : refundS l claims limit = ([], je.1, je.2) := by simp [refundS, hS]
      simp [f_law48_DrawbackSums, F_law48_awake_val, F_ref48_Few_val, hf, c1, c2, rf, e1, he]
    | inr r =>
      obtain ⟨g1, g2, g3, g4, g5⟩ := carryS_within hS
      obtain ⟨q1, q2, q3, q4⟩ := carryS_inr hS
      obtain ⟨d1, d2, d3⟩ := checkP_ok q1
      have e1 : refundS l claims limit = (r, -1, 0) := by simp [refundS, hS]
      have e5 : totalS l claims limit = (r.sum, 0) := by simp [totalS, hS]
      have e6 := sum_pick l d3 claims r g3 (all_claims_known claims [] r q4)
      obtain ⟨h', k1⟩ := sums_L2 (T := t_law48_DrawbackSums) (x0 := fun w121_0 w121_1 w121_2 w121_10 h => f_law48_DrawbackSums_j1 Try.prog t_law48_DrawbackSums d_law48_DrawbackSums NN (fun v g => cvt false g v) w121_0 w121_1 w121_2 w121_10 h) (xr := fun w122_6 h => cvt false h w122_6) hS m1 m2 b1 b2 (r.isEmpty && r.isEmpty) NN [] l 0 [] rfl (by have := NN_ge; omega) (by simp)
      have e4 : ((r.length : Int) = (claims.length : Int)) := by omega
      rw [e6, Int.zero_add] at k1
      have tv := F_drawback_Total_val l claims (b1 && l.isEmpty) (b2 && claims.isEmpty) limit
      rw [e5] at tv
      simp [f_law48_DrawbackSums, F_law48_awake_val, F_ref48_Few_val, hf, c1, c2, rf, e1, e4]
      refine k1.trans ?_
      simp [f_law48_DrawbackSums_j1, c1, c2, tv]
end Go.AM

/- drawback, the reference: between, find, claimed, refused. -/
namespace Go.AM
open Go.Proofs
set_option linter.unusedVariables false
set_option linter.unusedSimpArgs false
set_option linter.constructorNameAsVariable false
set_option maxRecDepth 20000
theorem F_ref47_Between_val (a b c : Int) (h : Hp) : F_ref47_Between [I a, I b, I c] h = some (B (win a b c), h) := F_ref47_Between_run rfl (by simp [f_ref47_Between, win]) h
theorem F_ref48_between_val (a b c : Int) (h : Hp) : F_ref48_between [I a, I b, I c] h = some (B (win a b c), h) := F_ref48_between_run rfl (by simp [f_ref48_between, F_ref47_Between_val]) h
def ixOf (l : List Paid) (id : Int) : Option Nat := l.findIdx? fun p => decide (p.id = id)
theorem ixOf_cons (p : Paid) (l : List Paid) (id : Int) : ixOf (p :: l) id = if p.id = id then some 0 else (ixOf l id).map (· + 1) := by
  unfold ixOf
  rw [List.findIdx?_cons]
  by_cases h : p.id = id <;> simp [h]
theorem ixOf_none {l : List Paid} {id : Int} (h : ixOf l id = none) : paidL l id = none := by
  induction l with
  | nil => rfl
  | cons p l ih =>
    rw [ixOf_cons] at h
    by_cases hp : p.id = id
    · simp [hp] at h
    · rw [if_neg hp] at h
      have h2 : ixOf l id = none := by simpa using h
      unfold paidL
      rw [List.find?_cons_of_neg (by simpa using hp)]
      exact ih h2
theorem ixOf_some : ∀ {l : List Paid} {id : Int} {k : Nat}, ixOf l id = some k → ∃ p, l[k]? = some p ∧ paidL l id = some p
  | [], id, k, h => by simp [ixOf] at h
  | p :: l, id, k, h => by
    rw [ixOf_cons] at h
    by_cases hp : p.id = id
    · rw [if_pos hp] at h
      simp only [Option.some.injEq] at h
      subst h
      exact ⟨p, rfl, by simp [paidL, hp]⟩
    · rw [if_neg hp] at h
      obtain ⟨j, hj, rfl⟩ := Option.map_eq_some_iff.1 h
      obtain ⟨q, h1, h2⟩ := ixOf_some hj
      refine ⟨q, by simpa using h1, ?_⟩
      unfold paidL
      rw [List.find?_cons_of_neg (by simpa using hp)]
      exact h2
def ixI (l : List Paid) (id : Int) : Int := match ixOf l id with | some k => (k : Int) | none => -1
section
variable {β : Type} {P : Program} {T : Tab} {D : DTab} {N : Nat} {K : AV → Hp → Option β}
theorem find_L2 {x0 : Hp → Option β} {xr : AV → Hp → Option β} (l : List Paid) (hl : l.length < 1000000) (b : Bool) (id : Int) (h : Hp) : ∀ (n : Nat) (pre post : List Paid), l = pre ++ post → post.length < n →
    f_ref48_find_L2 Try.prog T D N x0 xr n (.lst 5 b (l.map encP)) (I id) (I pre.length) h = match ixOf post id with | some j => xr (I (pre.length + j : Nat)) h | none => x0 h := by
  intro n
  induction n with
  | zero => intro pre post _ h1; omega
  | succ n ih =>
    intro pre post hc hpn
    have e0 : f_ref48_find_L2 Try.prog T D N x0 xr (n + 1) (.lst 5 b (l.map encP)) (I id) (I pre.length) h = f_ref48_find_b2 Try.prog T D N (f_ref48_find_L2 Try.prog T D N x0 xr n) x0 xr (.lst 5 b (l.map encP)) (I id) (I pre.length) h := rfl
    rw [e0]
    cases post with
    | nil =>
      have hcl : l = pre := by simpa using hc
      subst hcl
      simp [f_ref48_find_b2, ixOf]
    | cons p post =>
      have hi : pre.length < l.length := by rw [hc]; simp
      have hx : l[pre.length]? = some p := by rw [hc]; simp
      have hlt : ((pre.length : Int) < (l.length : Int)) := by omega
      have hw : IntKind.i64.wrap ((pre.length : Int) + 1) = (((pre ++ [p]).length : Nat) : Int) := by rw [wrap64 (by omega) (by omega)]; simp
      have step := ih (pre ++ [p]) post (by simpa using hc) (by simpa using hpn)
      rw [ixOf_cons]
      by_cases hp : p.id = id
      · simp [f_ref48_find_b2, hlt, hx, encP, hp]
      · have e1 : f_ref48_find_b2 Try.prog T D N (f_ref48_find_L2 Try.prog T D N x0 xr n) x0 xr (.lst 5 b (l.map encP)) (I id) (I pre.length) h = f_ref48_find_L2 Try.prog T D N x0 xr n (.lst 5 b (l.map encP)) (I id) (I (pre ++ [p]).length) h := by
          simp [f_ref48_find_b2, hlt, hx, encP, hp, hw]
        rw [e1, step, if_neg hp]
        cases ixOf post id with
        | none => rfl
        | some j =>
          simp only [Option.map_some]
          congr 2
          simp; omega
theorem claimed_L2 {x0 : AV → Hp → Option β} (claims : List Claim) (hn : claims.length ≤ 65) (hca : ∀ c ∈ claims, 0 ≤ c.alc ∧ c.alc ≤ 10737418240000) (b : Bool) (id : Int) (h : Hp) : ∀ (n : Nat) (pre post : List Claim) (acc : Int), claims = pre ++ post → post.length < n → (0 ≤ acc ∧ acc + post.length * 17592186044416 ≤ 4611686018427387904) →
    f_ref48_claimed_L2 Try.prog T D N x0 n (.lst 3 b (claims.map encC)) (I id) (I acc) (I pre.length) h = x0 (I (acc + claimedL post id)) h := by
  intro n
  induction n with
  | zero => intro pre post acc _ h1; omega
  | succ n ih =>
    intro pre post acc hc hpn ha
    have e0 : f_ref48_claimed_L2 Try.prog T D N x0 (n + 1) (.lst 3 b (claims.map encC)) (I id) (I acc) (I pre.length) h = f_ref48_claimed_b2 Try.prog T D N (f_ref48_claimed_L2 Try.prog T D N x0 n) x0 (.lst 3 b (claims.map encC)) (I id) (I acc) (I pre.length) h := rfl
    rw [e0]
    cases post with
    | nil =>
      have hcl : claims = pre := by simpa using hc
      subst hcl
      simp [f_ref48_claimed_b2, claimedL]
    | cons c post =>
      have hi : pre.length < claims.length := by rw [hc]; simp
      have hx : claims[pre.length]? = some c := by rw [hc]; simp
      have hlt : ((pre.length : Int) < (claims.length : Int)) := by omega
      have hw : IntKind.i64.wrap ((pre.length : Int) + 1) = (((pre ++ [c]).length : Nat) : Int) := by rw [wrap64 (by omega) (by omega)]; simp
      have hcc := hca c (by rw [hc]; simp)
      simp only [List.length_cons] at ha
      by_cases hp : c.paid = id
      · have w1 : IntKind.i64.wrap (acc + c.alc) = acc + c.alc := wrap64 (by omega) (by omega)
        have step := ih (pre ++ [c]) post (acc + c.alc) (by simpa using hc) (by simpa using hpn) (by omega)
        have e3 : claimedL (c :: post) id = c.alc + claimedL post id := by simp [claimedL, hp]
        rw [e3, ← Int.add_assoc, ← step]
        simp [f_ref48_claimed_b2, hlt, hx, encC, hp, hw, w1, f_ref48_claimed_j4, f_ref48_claimed_j3]
      · have step := ih (pre ++ [c]) post acc (by simpa using hc) (by simpa using hpn) (by omega)
        have e3 : claimedL (c :: post) id = claimedL post id := by simp only [claimedL]; rw [if_neg (fun e : id = c.paid => hp e.symm)]; omega
        rw [e3, ← step]
        simp [f_ref48_claimed_b2, hlt, hx, encC, hp, hw, f_ref48_claimed_j4, f_ref48_claimed_j3]
end
theorem F_ref48_find_val (l : List Paid) (hl : l.length < 1000000) (b : Bool) (id : Int) (h : Hp) : F_ref48_find [.lst 5 b (l.map encP), I id] h = some (I (ixI l id), h) := by
  refine F_ref48_find_run rfl ?_ h
  have := find_L2 (T := t_ref48_find) (D := d_ref48_find) (N := NN) (x0 := fun h => f_ref48_find_j1 Try.prog t_ref48_find d_ref48_find NN (fun v g => cvt false g v) h) (xr := fun w9_4 h => cvt false h w9_4) l hl b id [] NN [] l rfl (by have := NN_ge; omega)
  refine Eq.trans ?_ (this.trans ?_)
  · simp [f_ref48_find]
  · unfold ixI
    cases ixOf l id with
    | none => simp [f_ref48_find_j1]
    | some j => simp
theorem F_ref48_claimed_val (claims : List Claim) (hn : claims.length ≤ 65) (hca : ∀ c ∈ claims, 0 ≤ c.alc ∧ c.alc ≤ 10737418240000) (b : Bool) (id : Int) (h : Hp) : F_ref48_claimed [.lst 3 b (claims.map encC), I id] h = some (I (claimedL claims id), h) := by
  refine F_ref48_claimed_run rfl ?_ h
  have := claimed_L2 (T := t_ref48_claimed) (D := d_ref48_claimed) (N := NN) (x0 := fun w12_5 h => f_ref48_claimed_j1 Try.prog t_ref48_claimed d_ref48_claimed NN (fun v g => cvt false g v) w12_5 h) claims hn hca b id [] NN [] claims 0 rfl (by have := NN_ge; omega) (by omega)
  refine Eq.trans ?_ (this.trans ?_)
  · simp [f_ref48_claimed]
  · simp [f_ref48_claimed_j1]
end Go.AM

/- drawback, the reference: Check, refused. -/
namespace Go.AM
open Go.Proofs
set_option linter.unusedVariables false
set_option linter.unusedSimpArgs false
set_option linter.constructorNameAsVariable false
set_option maxRecDepth 20000
section
variable {β : Type} {P : Program} {T : Tab} {D : DTab} {N : Nat}
variable {xn : AV → AV → Hp → Option β} {x0 : Hp → Option β} {xr : AV → AV → Hp → Option β} {l : List Paid} {b : Bool} {h : Hp}
theorem rCheck_b2_first (hT : T 28 = some F_ref48_between) (hl : 0 < l.length) :
    f_ref48_Check_b2 P T D N xn x0 xr (.lst 5 b (l.map encP)) (I 0) h = if badP l[0] then xr (I 0) (I 2) (h ++ [.arr 5 [encP l[0]] true false]) else xn (.lst 5 b (l.map encP)) (I 1) (h ++ [.arr 5 [encP l[0]] true false]) := by
  have hlt : ((0 : Int) < (l.length : Int)) := by omega
  simp [f_ref48_Check_b2, hlt, hl, hT, encP, F_ref48_between_val, badP, wrap64]
theorem rCheck_b2_next (hT : T 28 = some F_ref48_between) {i : Nat} (hi : i + 1 < l.length) (hl : l.length < 1000) :
    f_ref48_Check_b2 P T D N xn x0 xr (.lst 5 b (l.map encP)) (I (i + 1 : Nat)) h = if badP l[i + 1] then xr (I (i + 1 : Nat)) (I 2) (h ++ [.arr 5 [encP l[i + 1]] true false])
      else if l[i + 1].id ≤ l[i].id then xr (I (i + 1 : Nat)) (I 5) (h ++ [.arr 5 [encP l[i + 1]] true false]) else xn (.lst 5 b (l.map encP)) (I (i + 1 + 1 : Nat)) (h ++ [.arr 5 [encP l[i + 1]] true false]) := by
  have hlt : (((i + 1 : Nat) : Int) < (l.length : Int)) := by omega
  have h0 : (0 : Int) < ((i + 1 : Nat) : Int) := by omega
  have w1 : IntKind.i64.wrap (((i + 1 : Nat) : Int) - 1) = (i : Int) := by rw [wrap64 (by omega) (by omega)]; omega
  have w2 : IntKind.i64.wrap (((i + 1 : Nat) : Int) + 1) = ((i + 1 + 1 : Nat) : Int) := by rw [wrap64 (by omega) (by omega)]; omega
  generalize hj : ((i + 1 : Nat) : Int) = j at *
  have hi1 : iaK (β := β) 5 (.lst 5 b (l.map encP)) (I j) = fun k => k (.ep (encP l[i + 1]) 0) := by funext k; rw [← hj, iaK_map, List.getElem?_eq_getElem hi]
  simp [f_ref48_Check_b2, hlt, h0, w1, w2, hT, encP, F_ref48_between_val, badP, hi1, List.getElem?_eq_getElem (show i < l.length by omega)]
theorem rCheck_L2_val (hT : T 28 = some F_ref48_between) (hl : l.length < 1000) {X : Option β} {R : Int → Int → Option β} (hx : ∀ h, x0 h = X) (hr : ∀ a b h, xr (I a) (I b) h = R a b) : ∀ (n i : Nat) (h : Hp), i ≤ l.length → l.length < i + n →
    f_ref48_Check_L2 P T D N x0 xr n (.lst 5 b (l.map encP)) (I i) h = match checkAt (if i = 0 then none else (l[i - 1]?).map (·.id)) (l.drop i) i with | none => X | some (a, b) => R a b := by
  intro n
  induction n with
  | zero => intro i h h1 h2; omega
  | succ n ih =>
    intro i h h1 h2
    show f_ref48_Check_b2 P T D N (f_ref48_Check_L2 P T D N x0 xr n) x0 xr _ _ h = _
    rcases Nat.lt_or_ge i l.length with hi | hi
    · rw [List.drop_eq_getElem_cons hi]
      unfold checkAt
      match i, hi with
      | 0, hi =>
        refine (rCheck_b2_first hT hi).trans ?_
        by_cases hb : badP l[0] = true
        · simp [hb, hr]
        · have h3 := fun hh => ih 1 hh (by omega) (by omega)
          simp only [hb, if_false, Bool.false_eq_true, if_true]
          refine (h3 _).trans ?_
          simp [List.getElem?_eq_getElem hi]
      | i + 1, hi =>
        rw [rCheck_b2_next hT hi hl]
        by_cases hb : badP l[i + 1] = true
        · simp [hb, hr]
        · have h3 := fun hh => ih (i + 1 + 1) hh (by omega) (by omega)
          have hg : l[i]? = some l[i] := List.getElem?_eq_getElem (by omega)
          by_cases hc : l[i + 1].id ≤ l[i].id
          · simp [hb, hr, hc, hg]
          · simp only [hb, hc, if_false, Bool.false_eq_true]
            refine (h3 _).trans ?_
            simp [hg, hc, List.getElem?_eq_getElem hi]
    · have : i = l.length := by omega
      subst this
      simp [f_ref48_Check_b2, hx, checkAt]
end
theorem F_ref48_Check_val (l : List Paid) (b : Bool) (h : Hp) : F_ref48_Check [.lst 5 b (l.map encP)] h = some (.tup [I (checkP l).1, I (checkP l).2], h) := by
  refine F_ref48_Check_run rfl ?_ h
  unfold checkP
  by_cases hl : 64 < l.length
  · have hl' : (64 : Int) < (l.length : Int) := by omega
    simp [f_ref48_Check, hl, hl']
  · have hl' : ¬ (64 : Int) < (l.length : Int) := by omega
    have h1 := rCheck_L2_val (β := AV) (P := Try.prog) (T := t_ref48_Check) (D := d_ref48_Check) (N := NN) (l := l) (b := b) (x0 := fun h => f_ref48_Check_j1 Try.prog t_ref48_Check d_ref48_Check NN (fun v g => cvt false g v) h) (xr := fun a b h => cvt false h (.tup [a, b])) rfl (by omega)
      (X := some (.tup [I (-1), I 0])) (R := fun a b => some (.tup [I a, I b])) (fun h => rfl) (fun a b h => rfl) NN 0 [] (by omega) (by have := NN_ge; omega)
    simp [f_ref48_Check, hl, hl'] at h1 ⊢
    refine h1.trans ?_
    cases checkAt none l 0 <;> rfl
theorem G_ref48_claimed_val (claims : List Claim) (hn : claims.length ≤ 65) (hca : ∀ c ∈ claims, 0 ≤ c.alc ∧ c.alc ≤ 10737418240000) (b : Bool) (id : Int) (h : Hp) (base : Nat) : G_ref48_claimed [.lst 3 b (claims.map encC), I id] h base = some (I (claimedL claims id), EF []) :=
  (closedXD_val (F_ref48_claimed_val claims hn hca b id h) base).trans (by simp [idss, ids])
theorem claimedL_bd (claims : List Claim) (hca : ∀ c ∈ claims, 0 ≤ c.alc ∧ c.alc ≤ 10737418240000) (id : Int) : 0 ≤ claimedL claims id ∧ claimedL claims id ≤ claims.length * 10737418240000 := by
  induction claims with
  | nil => simp [claimedL]
  | cons c cs ih =>
    have h1 := hca c (by simp)
    have h2 := ih (fun d hd => hca d (by simp [hd]))
    simp only [claimedL, List.length_cons]
    split <;> omega
theorem F_ref48_refused_val (l : List Paid) (hl : l.length < 1000000) (hlb : ∀ p ∈ l, badP p = false) (ahead : List Claim) (hn : ahead.length ≤ 65) (hca : ∀ c ∈ ahead, 0 ≤ c.alc ∧ c.alc ≤ 10737418240000) (b1 b2 : Bool) (c : Claim) (limit : Int) (h : Hp) :
    F_ref48_refused [.lst 5 b1 (l.map encP), .lst 3 b2 (ahead.map encC), .agg (encC c), I limit] h = some (I (errC l limit ahead c), h) := by
  refine F_ref48_refused_run rfl ?_ h
  unfold errC stepErr
  by_cases h1 : bad1 c = true
  · rw [if_pos h1]
    simp only [bad1] at h1
    simp [f_ref48_refused, encC, boxE, F_ref48_between_val, h1]
  · rw [if_neg h1]
    have h1' : (!win c.paid 1 1073741824 || !win c.day 0 100000 || !win c.alc 1 10737418240000) = false := by simpa [bad1] using h1
    have hb : 0 ≤ c.day ∧ c.day ≤ 100000 ∧ 1 ≤ c.alc ∧ c.alc ≤ 10737418240000 := by simp [bad1, win] at h1; omega
    have hcl := claimedL_bd ahead hca c.paid
    have w1 : IntKind.i64.wrap (claimedL ahead c.paid + c.alc) = claimedL ahead c.paid + c.alc := wrap64 (by omega) (by omega)
    have gc := G_ref48_claimed_val ahead hn hca b2 c.paid
    have fv := F_ref48_find_val l hl b1 c.paid
    rcases List.eq_nil_or_concat ahead with rfl | ⟨L, d, hL⟩
    · have h0 : ¬ c.day < lastL [] := by simp [lastL]; omega
      rw [if_neg h0]
      simp only [List.map_nil] at gc
      have w4 : IntKind.i64.wrap c.alc = c.alc := wrap64 (by omega) (by omega)
      cases hk : ixOf l c.paid with
      | none =>
        have e1 : ixI l c.paid = -1 := by simp [ixI, hk]
        rw [ixOf_none hk]
        simp [f_ref48_refused, encC, boxE, F_ref48_between_val, h1', fv, e1, claimedL, w4]
      | some k =>
        obtain ⟨p, hp1, hp2⟩ := ixOf_some hk
        have e1 : ixI l c.paid = (k : Int) := by simp [ixI, hk]
        have e2 : ¬ ((k : Int) < 0) := by omega
        have hbd := okP_bd (hlb p (paidL_mem hp2).1)
        have w2 : IntKind.i64.wrap (c.day - p.day) = c.day - p.day := wrap64 (by omega) (by omega)
        rw [hp2]
        by_cases q1 : c.day < p.day
        · simp [f_ref48_refused, encC, boxE, F_ref48_between_val, h1', fv, e1, e2, hp1, encP, q1, claimedL, w4]
        · by_cases q2 : limit < c.day - p.day
          · simp [f_ref48_refused, encC, boxE, F_ref48_between_val, h1', fv, e1, e2, hp1, encP, q1, q2, w2, claimedL, w4]
          · simp [f_ref48_refused, encC, boxE, F_ref48_between_val, h1', fv, e1, e2, hp1, encP, q1, q2, w2, effD_y, disjAll, disj2, wrOf, idsOf, callE_F, gc, w1, claimedL, w4]
            split <;> simp_all
    · obtain ⟨m, d, hlen, hd1, h0⟩ : ∃ (m : Nat) (d : Claim), ((ahead.length : Int) = m + 1) ∧ ahead[m]? = some d ∧ lastL ahead = d.day := by
        refine ⟨L.length, d, ?_, ?_, ?_⟩
        · rw [hL]; simp
        · rw [hL]; simp
        · rw [hL, List.concat_eq_append]; exact lastL_snoc L d
      have w3 : IntKind.i64.wrap (m : Int) = (m : Int) := wrap64 (by omega) (by omega)
      have h2 : (0 : Int) < (m : Int) + 1 := by omega
      rw [h0]
      by_cases ho : c.day < d.day
      · rw [if_pos ho]
        simp only [f_ref48_refused]
        simp [encC, boxE, F_ref48_between_val, h1', hlen, w3, hd1, h2, ho]
      · rw [if_neg ho]
        cases hk : ixOf l c.paid with
        | none =>
          have e1 : ixI l c.paid = -1 := by simp [ixI, hk]
          rw [ixOf_none hk]
          simp [f_ref48_refused, encC, boxE, F_ref48_between_val, h1', fv, e1, hlen, w3, hd1, h2, ho]
        | some k =>
          obtain ⟨p, hp1, hp2⟩ := ixOf_some hk
          have e1 : ixI l c.paid = (k : Int) := by simp [ixI, hk]
          have e2 : ¬ ((k : Int) < 0) := by omega
          have hbd := okP_bd (hlb p (paidL_mem hp2).1)
          have w2 : IntKind.i64.wrap (c.day - p.day) = c.day - p.day := wrap64 (by omega) (by omega)
          rw [hp2]
          by_cases q1 : c.day < p.day
          · simp [f_ref48_refused, encC, boxE, F_ref48_between_val, h1', fv, e1, e2, hp1, encP, q1, hlen, w3, hd1, h2, ho]
          · by_cases q2 : limit < c.day - p.day
            · simp [f_ref48_refused, encC, boxE, F_ref48_between_val, h1', fv, e1, e2, hp1, encP, q1, q2, w2, hlen, w3, hd1, h2, ho]
            · simp [f_ref48_refused, encC, boxE, F_ref48_between_val, h1', fv, e1, e2, hp1, encP, q1, q2, w2, effD_y, disjAll, disj2, wrOf, idsOf, callE_F, gc, w1, hlen, w3, hd1, h2, ho]
              split <;> simp_all
end Go.AM

/- The reference's proportion. -/
namespace Go.AM
open Go.Proofs
set_option linter.unusedVariables false
set_option linter.unusedSimpArgs false
set_option linter.constructorNameAsVariable false
set_option maxRecDepth 20000
theorem prod_nat (x y : Nat) : (x / 2147483648) * (y / 2147483648) + ((x % 2147483648) * (y / 2147483648) + (x % 2147483648) * (y % 2147483648) / 2147483648) / 2147483648 +
      ((x / 2147483648) * (y % 2147483648) + ((x % 2147483648) * (y / 2147483648) + (x % 2147483648) * (y % 2147483648) / 2147483648) % 2147483648) / 2147483648 = x * y / 4611686018427387904 ∧
    ((x / 2147483648) * (y % 2147483648) + ((x % 2147483648) * (y / 2147483648) + (x % 2147483648) * (y % 2147483648) / 2147483648) % 2147483648) % 2147483648 * 2147483648 + (x % 2147483648) * (y % 2147483648) % 2147483648 = x * y % 4611686018427387904 := by
  have hx : x = 2147483648 * (x / 2147483648) + x % 2147483648 := by omega
  have hy : y = 2147483648 * (y / 2147483648) + y % 2147483648 := by omega
  generalize x / 2147483648 = a at *
  generalize x % 2147483648 = b at *
  generalize y / 2147483648 = c at *
  generalize y % 2147483648 = d at *
  have e : x * y = 4611686018427387904 * (a * c) + 2147483648 * (b * c + a * d) + b * d := by
    subst hx hy
    rw [Nat.add_mul, Nat.mul_add, Nat.mul_add]
    have e1 : 2147483648 * a * (2147483648 * c) = 4611686018427387904 * (a * c) := by
      rw [Nat.mul_mul_mul_comm]
    have e2 : 2147483648 * a * d = 2147483648 * (a * d) := Nat.mul_assoc _ _ _
    have e3 : b * (2147483648 * c) = 2147483648 * (b * c) := Nat.mul_left_comm _ _ _
    rw [e1, e2, e3]
    omega
  rw [e]
  generalize a * c = A
  generalize b * c = B
  generalize a * d = C
  generalize b * d = E
  omega
section
variable {β : Type} {P : Program} {ty : TypeId}
theorem mask31 (a : Nat) (ha : a < 18446744073709551616) (k : K β) : reckK P .and ty (U a) (.s (.int .u64 2147483647)) k = k (U (a % 2147483648)) := by
  have h1 := reck_and (P := P) (ty := ty) a 2147483647 ha (by decide) k
  have h2 : a &&& 2147483647 = a % 2147483648 := Nat.and_two_pow_sub_one_eq_mod a 31
  rw [h2] at h1
  exact h1
theorem shr31 (a : Nat) (k : K β) : reckK P .shr ty (U a) (.s (.int .u64 31)) k = k (U (a / 2147483648)) := reck_shr a 31 (by decide) k
theorem shl31 (a : Nat) (ha : a < 2147483648) (k : K β) : reckK P .shl ty (U a) (.s (.int .u64 31)) k = k (U (a * 2147483648)) := by
  have := reck_shl (P := P) (ty := ty) a 31 (by decide) k
  rw [show a * 2 ^ 31 % 18446744073709551616 = a * 2147483648 from by omega] at this
  exact this
theorem or31 (a b : Nat) (ha : a < 2147483648) (hb : b < 2147483648) (k : K β) : reckK P .or ty (U (a * 2147483648)) (U b) k = k (U (a * 2147483648 + b)) := by
  rw [reck_or _ _ (by omega) (by omega)]
  have := Nat.two_pow_add_eq_or_of_lt (i := 31) (b := b) (by omega) a
  rw [show a * 2147483648 = 2 ^ 31 * a from by omega, ← this]
end
theorem mul31 {a b : Nat} (ha : a < 2147483648) (hb : b < 2147483648) : a * b ≤ 4611686014132420609 := by
  have : a * b ≤ 2147483647 * 2147483647 := Nat.mul_le_mul (by omega) (by omega)
  omega
theorem F_ref01_Product_val (x y : Nat) (hx : x < 4611686018427387904) (hy : y < 4611686018427387904) (h : Hp) : F_ref01_Product [I x, I y] h = some (.agg [U (x * y / 4611686018427387904), U (x * y % 4611686018427387904)], h) := by
  refine F_ref01_Product_run rfl ?_ h
  obtain ⟨p1, p2⟩ := prod_nat x y
  have b1 : x % 2147483648 < 2147483648 := Nat.mod_lt _ (by decide)
  have b2 : y % 2147483648 < 2147483648 := Nat.mod_lt _ (by decide)
  have b3 : x / 2147483648 < 2147483648 := by omega
  have b4 : y / 2147483648 < 2147483648 := by omega
  have m1 := mul31 b1 b2
  have m2 := mul31 b1 b4
  have m3 := mul31 b3 b2
  have m4 := mul31 b3 b4
  rw [← p1, ← p2]
  simp only [f_ref01_Product]
  rw [show ([] : Hp).length = 0 from rfl, effK_box 2 0 (.agg [.s (.int .u64 0), .s (.int .u64 0)]) [] _ rfl rfl rfl, convK_int un_3 un_77, convK_int un_3 un_77, wrapU (by omega) (by omega), wrapU (by omega) (by omega)]
  generalize hE : x % 2147483648 * (y % 2147483648) = E at *
  generalize hB : x % 2147483648 * (y / 2147483648) = B at *
  generalize hC : x / 2147483648 * (y % 2147483648) = C at *
  generalize hA : x / 2147483648 * (y / 2147483648) = A at *
  rw [mask31 x (by omega), mask31 y (by omega), u_mul _ _ (by omega), mask31 x (by omega), shr31 y, u_mul _ _ (by omega), hE, hB, shr31 E, u_add _ _ (by omega), shr31 x, mask31 y (by omega), u_mul _ _ (by omega), hC, mask31 _ (by omega), u_add _ _ (by omega), shr31 x, shr31 y, u_mul _ _ (by omega), hA, shr31, u_add _ _ (by omega), shr31, u_add _ _ (by omega),
    mask31 _ (by omega), shl31 _ (by omega), mask31 _ (by omega), or31 _ _ (by omega) (by omega)]
  simp [buildK, fillA]
end Go.AM

/- The reference's proportion: wide numbers. -/
namespace Go.AM
open Go.Proofs
set_option linter.unusedVariables false
set_option linter.unusedSimpArgs false
set_option linter.constructorNameAsVariable false
set_option maxRecDepth 20000
/-- A wide number. -/
abbrev Wd (n : Nat) : AV := .agg [U (n / 4611686018427387904), U (n % 4611686018427387904)]
theorem Less_core (a b c d : Nat) (h : Hp) : F_ref01_Less [.agg [U a, U b], .agg [U c, U d]] h = some (B (decide (a < c) || (decide (a = c) && decide (b < d))), h) := by
  refine F_ref01_Less_run rfl ?_ h
  have q1 : decide ((a : Int) < (c : Int)) = decide (a < c) := dec_ul a c
  have q2 : decide ((b : Int) < (d : Int)) = decide (b < d) := dec_ul b d
  have q3 : ((a : Int) == (c : Int)) = decide (a = c) := by rw [Bool.eq_iff_iff]; simp; omega
  simp only [f_ref01_Less]
  simp [boxE]
  simp [q3]
theorem F_ref01_Less_val (m n : Nat) (h : Hp) : F_ref01_Less [Wd m, Wd n] h = some (B (decide (m < n)), h) := by
  refine (Less_core _ _ _ _ h).trans ?_
  have e : (decide (m / 4611686018427387904 < n / 4611686018427387904) || (decide (m / 4611686018427387904 = n / 4611686018427387904) && decide (m % 4611686018427387904 < n % 4611686018427387904))) = decide (m < n) := by
    rw [Bool.eq_iff_iff]; simp; omega
  rw [e]
theorem F_ref01_minus_val (m n : Nat) (hm : m < 21267647932558653966460912964485513216) (hn : n ≤ m) (h : Hp) : F_ref01_minus [Wd m, Wd n] h = some (Wd (m - n), h) := by
  refine F_ref01_minus_run rfl ?_ h
  have k1 : m / 4611686018427387904 < 4611686018427387904 := by omega
  by_cases hl : m % 4611686018427387904 < n % 4611686018427387904
  · have e1 : (m - n) / 4611686018427387904 = m / 4611686018427387904 - n / 4611686018427387904 - 1 := by omega
    have e2 : (m - n) % 4611686018427387904 = m % 4611686018427387904 + 4611686018427387904 - n % 4611686018427387904 := by omega
    have k2 : n / 4611686018427387904 + 1 ≤ m / 4611686018427387904 := by omega
    have k3 : m % 4611686018427387904 < 4611686018427387904 := by omega
    have k4 : n % 4611686018427387904 < 4611686018427387904 := by omega
    simp only [Wd]
    rw [e1, e2]
    generalize m / 4611686018427387904 = a at *
    generalize m % 4611686018427387904 = b at *
    generalize n / 4611686018427387904 = c at *
    generalize n % 4611686018427387904 = d at *
    have q1 : decide ((b : Int) < (d : Int)) = true := by simp; omega
    have w1 : IntKind.u64.wrap ((a : Int) - (c : Int)) = ((a - c : Nat) : Int) := by rw [wrapU (by omega) (by omega)]; omega
    have w2 : IntKind.u64.wrap (((a - c : Nat) : Int) - 1) = ((a - c - 1 : Nat) : Int) := by rw [wrapU (by omega) (by omega)]; omega
    have w3 : IntKind.u64.wrap ((b : Int) + 4611686018427387904) = ((b + 4611686018427387904 : Nat) : Int) := by rw [wrapU (by omega) (by omega)]; omega
    have w4 : IntKind.u64.wrap (((b + 4611686018427387904 : Nat) : Int) - (d : Int)) = ((b + 4611686018427387904 - d : Nat) : Int) := by rw [wrapU (by omega) (by omega)]; omega
    simp only [f_ref01_minus]
    simp [boxE, buildK, fillA, hl, w1]
    simp [w2, w3]
    simpa using w4
  · have e1 : (m - n) / 4611686018427387904 = m / 4611686018427387904 - n / 4611686018427387904 := by omega
    have e2 : (m - n) % 4611686018427387904 = m % 4611686018427387904 - n % 4611686018427387904 := by omega
    have k2 : n / 4611686018427387904 ≤ m / 4611686018427387904 := by omega
    have k3 : m % 4611686018427387904 < 4611686018427387904 := by omega
    simp only [Wd]
    rw [e1, e2]
    generalize m / 4611686018427387904 = a at *
    generalize m % 4611686018427387904 = b at *
    generalize n / 4611686018427387904 = c at *
    generalize n % 4611686018427387904 = d at *
    have q1 : decide ((b : Int) < (d : Int)) = false := by simp; omega
    have w1 : IntKind.u64.wrap ((a : Int) - (c : Int)) = ((a - c : Nat) : Int) := by rw [wrapU (by omega) (by omega)]; omega
    have w2 : IntKind.u64.wrap ((b : Int) - (d : Int)) = ((b - d : Nat) : Int) := by rw [wrapU (by omega) (by omega)]; omega
    simp only [f_ref01_minus]
    simp [boxE, buildK, fillA, hl, w1, w2]
end Go.AM

/- The reference's proportion: the quotient, bit by bit. -/
namespace Go.AM
open Go.Proofs
set_option linter.unusedVariables false
set_option linter.unusedSimpArgs false
set_option linter.constructorNameAsVariable false
set_option maxRecDepth 20000
theorem G_ref01_Product_val (x y : Nat) (hx : x < 4611686018427387904) (hy : y < 4611686018427387904) (h : Hp) (base : Nat) : G_ref01_Product [I x, I y] h base = some (Wd (x * y), EF []) := (closedXD_val (F_ref01_Product_val x y hx hy h) base).trans (by simp [idss, ids])
theorem G_ref01_Less_val (m n : Nat) (h : Hp) (base : Nat) : G_ref01_Less [Wd m, Wd n] h base = some (B (decide (m < n)), EF []) := (closedXD_val (F_ref01_Less_val m n h) base).trans (by simp [idss, ids])
theorem G_ref01_minus_val (m n : Nat) (hm : m < 21267647932558653966460912964485513216) (hn : n ≤ m) (h : Hp) (base : Nat) : G_ref01_minus [Wd m, Wd n] h base = some (Wd (m - n), EF []) := (closedXD_val (F_ref01_minus_val m n hm hn h) base).trans (by simp [idss, ids])
section
variable {β : Type} {P : Program} {ty : TypeId}
theorem gopD_t (h : Hp) (run : (AV → Hp → Ent → Option β) → Option β) (k : AV → Hp → Ent → Option β) : gopD (wB (.s (.bool true)) true) h run k = run k := rfl
theorem gopD_f (h : Hp) (run : (AV → Hp → Ent → Option β) → Option β) (k : AV → Hp → Ent → Option β) : gopD (wB (.s (.bool false)) true) h run k = k (.tup []) h ([], []) := rfl
theorem reck_half (a : Nat) (ha : a < 9223372036854775808) (k : K β) : reckK P .quo ty (I a) (I 2) k = k (I (a / 2 : Nat)) := by
  refine reck_of (s := Op.intDiv .quo .i64 a 2) rfl rfl rfl ?_ k
  have h1 : ¬ ((2 : Int) = 0) := by omega
  have h2 : ((a : Int)).tdiv 2 = ((a / 2 : Nat) : Int) := by rw [Int.tdiv_eq_ediv_of_nonneg (by omega)]; omega
  unfold Op.intDiv
  rw [if_neg h1]
  simp only [h2]
  rw [wrap64 (by omega) (by omega)]
variable {T : Tab} {D : DTab} {N : Nat} {x0 : AV → AV → AV → Hp → Option β}
theorem of_L2 (c most p Q : Nat) (pb : Nat) (h : Hp) (hpb : h[pb]? = some (.arr 2 [[U (p / 4611686018427387904), U (p % 4611686018427387904)]] true false)) (hc : c < 4611686018427387904) (hmost : most ≤ 128849018880000)
    (hQ1 : Q ≤ most) (hQ2 : Q * c ≤ p) (hQ3 : ∀ q, q ≤ most → q * c ≤ p → q ≤ Q) : ∀ (n j q : Nat), j ≤ 62 → j < n → q ≤ Q → Q < q + 2 ^ j →
    f_ref01_Of_L2 Try.prog T d_ref01_Of N x0 n (I c) (I most) (.ptr pb 0 0 1) (I q) (I (2 ^ j / 2 : Nat)) h = x0 (I c) (.ptr pb 0 0 1) (I Q) h := by
  intro n
  induction n with
  | zero => intro j q _ h1; omega
  | succ n ih =>
    intro j q hj hjn hq hlt
    have e0 : f_ref01_Of_L2 Try.prog T d_ref01_Of N x0 (n + 1) (I c) (I most) (.ptr pb 0 0 1) (I q) (I (2 ^ j / 2 : Nat)) h = f_ref01_Of_b2 Try.prog T d_ref01_Of N (f_ref01_Of_L2 Try.prog T d_ref01_Of N x0 n) x0 (I c) (I most) (.ptr pb 0 0 1) (I q) (I (2 ^ j / 2 : Nat)) h := rfl
    rw [e0]
    cases j with
    | zero =>
      have : Q = q := by omega
      subst this
      simp [f_ref01_Of_b2]
    | succ j =>
      have e1 : 2 ^ (j + 1) / 2 = 2 ^ j := by rw [Nat.pow_succ]; omega
      have e2 : 2 ^ (j + 1) = 2 ^ j + 2 ^ j := by rw [Nat.pow_succ]; omega
      have hb : 2 ^ j ≤ 2305843009213693952 := Nat.pow_le_pow_right (n := 2) (j := 61) (by omega) (by omega)
      have hpos : 0 < 2 ^ j := Nat.two_pow_pos j
      rw [e1]
      rw [e2] at hlt
      have step := ih j
      generalize hB : 2 ^ j = bit at *
      have w1 : IntKind.i64.wrap ((q : Int) + (bit : Int)) = ((q + bit : Nat) : Int) := by rw [wrap64 (by omega) (by omega)]; omega
      have c1 : (0 : Int) < (bit : Int) := by omega
      have half := fun k => reck_half (P := Try.prog) (ty := 3) (β := β) bit (by omega) k
      have gP := G_ref01_Product_val (q + bit) c (by omega) hc
      have gL := G_ref01_Less_val p ((q + bit) * c)
      simp only [Wd] at gP gL
      obtain ⟨q', hqb⟩ : ∃ q', q' = q + bit := ⟨_, rfl⟩
      rw [← hqb] at w1 gP gL
      by_cases k1 : q' ≤ most
      · have k1' : (q' : Int) ≤ (most : Int) := by omega
        by_cases k2 : p < (q') * c
        · have s2 := step q (by omega) (by omega) hq (by
            rcases Nat.lt_or_ge Q (q') with h1 | h1
            · omega
            · have := Nat.mul_le_mul_right c h1; omega)
          rw [← s2]
          simp only [f_ref01_Of_b2, arithK_gtr, arithK_add, arithK_leq, w1]
          simp [c1, hpos, k1', gopD_t, hpb, effD_y, callE_F, gP, gL, k2, disjAll, disj2, wrOf, idsOf, f_ref01_Of_j4, f_ref01_Of_j3, half, w1]
        · have s2 := step (q') (by omega) (by omega) (hQ3 _ k1 (by omega)) (by omega)
          rw [← s2]
          simp only [f_ref01_Of_b2, arithK_gtr, arithK_add, arithK_leq, w1]
          simp [c1, hpos, k1', gopD_t, hpb, effD_y, callE_F, gP, gL, k2, disjAll, disj2, wrOf, idsOf, f_ref01_Of_j4, f_ref01_Of_j3, half, w1]
      · have k1' : ¬ (q' : Int) ≤ (most : Int) := by omega
        have s2 := step q (by omega) (by omega) hq (by omega)
        rw [← s2]
        simp only [f_ref01_Of_b2, arithK_gtr, arithK_add, arithK_leq, w1]
        simp [c1, hpos, k1', gopD_f, disjAll, disj2, wrOf, idsOf, f_ref01_Of_j4, f_ref01_Of_j3, half]
end
end Go.AM

/- The reference's proportion. -/
namespace Go.AM
open Go.Proofs
set_option linter.unusedVariables false
set_option linter.unusedSimpArgs false
set_option linter.constructorNameAsVariable false
set_option maxRecDepth 20000
theorem F_ref01_Of_val (a b c most : Nat) (ha : a < 4611686018427387904) (hb : b < 4611686018427387904) (hc0 : 0 < c) (hc : c < 4611686018427387904) (hm : most ≤ 128849018880000) (h : Hp) :
    F_ref01_Of [I a, I b, I c, I most] h = some (if a * b / c ≤ most then .tup [I (a * b / c : Nat), I (a * b % c : Nat), B true] else .tup [I 0, I 0, B false], h) := by
  refine F_ref01_Of_run rfl ?_ h
  have hp : a * b < 21267647932558653966460912964485513216 := by
    have : a * b ≤ 4611686018427387903 * 4611686018427387903 := Nat.mul_le_mul (by omega) (by omega)
    omega
  have fP := F_ref01_Product_val a b ha hb
  have gP := G_ref01_Product_val most c (by omega) hc
  have gL := G_ref01_Less_val (most * c) (a * b)
  have hdiv : c * (a * b / c) + a * b % c = a * b := Nat.div_add_mod _ _
  have hmod : a * b % c < c := Nat.mod_lt _ hc0
  generalize a * b = p at *
  have j1 : ∀ (pb : Nat) (hh : Hp), hh[pb]? = some (.arr 2 [[U (p / 4611686018427387904), U (p % 4611686018427387904)]] true false) → p / c ≤ most →
      f_ref01_Of_j1 Try.prog t_ref01_Of d_ref01_Of NN (fun v g => cvt false g v) (I c) (.ptr pb 0 0 1) (I (p / c : Nat)) hh = some (.tup [I (p / c : Nat), I (p % c : Nat), B true]) := by
    intro pb hh hpb hq
    have hle : p / c * c ≤ p := Nat.div_mul_le_self p c
    have g1 := G_ref01_Product_val (p / c) c (by omega) hc
    have g2 := G_ref01_minus_val p (p / c * c) hp hle
    have e : p - p / c * c = p % c := by rw [Nat.mul_comm]; omega
    rw [e] at g2
    have e2 : p % c % 4611686018427387904 = p % c := Nat.mod_eq_of_lt (by omega)
    have w1 : IntKind.i64.wrap ((p % c : Nat) : Int) = ((p % c : Nat) : Int) := wrap64 (by omega) (by omega)
    simp only [Wd] at g1 g2
    rw [e2] at g2
    have cv := fun k => convK_int (P := Try.prog) (n := ((p % c : Nat) : Int)) (ka := .u64) (β := AV) un_77 un_3 k
    rw [w1] at cv
    generalize p / c = Q at *
    generalize p % c = R at *
    simp [f_ref01_Of_j1, hpb, effD_y, callE_F, g1, g2, fldK, disjAll, disj2, wrOf, idsOf, cv]
  have L := fun (pb : Nat) (hh : Hp) (hpb : hh[pb]? = some (.arr 2 [[U (p / 4611686018427387904), U (p % 4611686018427387904)]] true false)) (hq : p / c ≤ most) =>
    (of_L2 (T := t_ref01_Of) (N := NN) (x0 := fun w84_2 w84_11 w84_12 h => f_ref01_Of_j1 Try.prog t_ref01_Of d_ref01_Of NN (fun v g => cvt false g v) w84_2 w84_11 w84_12 h) c most p (p / c) pb hh hpb hc hm hq (Nat.div_mul_le_self p c) (fun q _ h2 => (Nat.le_div_iff_mul_le hc0).2 h2) NN 62 0 (by omega) (by have := NN_ge; omega) (Nat.zero_le _) (by rw [Nat.zero_add]; exact Nat.lt_of_le_of_lt hq (Nat.lt_of_le_of_lt hm (by decide)))).trans (j1 pb hh hpb hq)
  simp only [Wd] at fP gP gL
  have cv2 : ∀ k : Go.AM.K AV, convK Try.prog 3 77 (I c) k = k (U c) := fun k => by rw [convK_int un_3 un_77, wrapU (by omega) (by omega)]
  by_cases k1 : most * c < p
  · have g3 := G_ref01_minus_val p (most * c) hp (by omega)
    have g4 := G_ref01_Less_val (p - most * c) c
    simp only [Wd] at g3 g4
    rw [Nat.div_eq_of_lt hc, Nat.mod_eq_of_lt hc] at g4
    have g4 : ∀ (h : Hp) (base : Nat), G_ref01_Less [.agg [U ((p - most * c) / 4611686018427387904), U ((p - most * c) % 4611686018427387904)], .agg [.s (.int .u64 0), U c]] h base = some (B (decide (p - most * c < c)), EF []) := g4
    by_cases k2 : p - most * c < c
    · have hq : p / c ≤ most := by
        have h1 : p < (most + 1) * c := by rw [Nat.add_mul]; omega
        have := (Nat.div_lt_iff_lt_mul hc0).2 h1
        omega
      rw [if_pos hq]
      refine Eq.trans ?_ (L 0 [.arr 2 [[U (p / 4611686018427387904), U (p % 4611686018427387904)]] true false] rfl hq)
      generalize p / 4611686018427387904 = ph at *
      generalize p % 4611686018427387904 = pl at *
      simp [f_ref01_Of, fP, boxE, effD_y, callE_F, gP, gL, k1, gopD_t, g3, g4, buildK, fillA, cv2, k2, disjAll, disj2, wrOf, idsOf]
    · have hq : ¬ p / c ≤ most := by
        intro hq
        have h1 : p < (most + 1) * c := (Nat.div_lt_iff_lt_mul hc0).1 (by omega)
        rw [Nat.add_mul] at h1; omega
      rw [if_neg hq]
      generalize p / 4611686018427387904 = ph at *
      generalize p % 4611686018427387904 = pl at *
      simp [f_ref01_Of, fP, boxE, effD_y, callE_F, gP, gL, k1, gopD_t, g3, g4, buildK, fillA, cv2, k2, disjAll, disj2, wrOf, idsOf]
  · have hq : p / c ≤ most := by
      have h1 : p < (most + 1) * c := by rw [Nat.add_mul]; omega
      have := (Nat.div_lt_iff_lt_mul hc0).2 h1
      omega
    rw [if_pos hq]
    refine Eq.trans ?_ (L 0 [.arr 2 [[U (p / 4611686018427387904), U (p % 4611686018427387904)]] true false] rfl hq)
    generalize p / 4611686018427387904 = ph at *
    generalize p % 4611686018427387904 = pl at *
    simp [f_ref01_Of, fP, boxE, effD_y, callE_F, gP, gL, k1, gopD_f, disjAll, disj2, wrOf, idsOf]
end Go.AM

/- drawback, the reference: share. -/
namespace Go.AM
open Go.Proofs
set_option linter.unusedVariables false
set_option linter.unusedSimpArgs false
set_option linter.constructorNameAsVariable false
set_option maxRecDepth 20000
theorem F_ref01_Proportion_val (a b c : Nat) (ha : a < 4611686018427387904) (hb : b < 4611686018427387904) (hc0 : 0 < c) (hc : c < 4611686018427387904) (h : Hp) :
    F_ref01_Proportion [I a, I b, I c] h = some (if a * b / c ≤ 128849018880000 then .tup [I (a * b / c : Nat), I (a * b % c : Nat)] else .tup [I 0, I 0], h) := by
  refine F_ref01_Proportion_run rfl ?_ h
  have fO : ∀ h : Hp, F_ref01_Of [I a, I b, I c, I 128849018880000] h = _ := F_ref01_Of_val a b c 128849018880000 ha hb hc0 hc (Nat.le_refl _)
  generalize a * b / c = q at *
  generalize a * b % c = r at *
  by_cases hq : q ≤ 128849018880000
  · simp [f_ref01_Proportion, fO, hq]
  · simp [f_ref01_Proportion, fO, hq]
theorem F_ref48_share_val (p : Paid) (n : Int) (hb : badP p = false) (h0 : 0 ≤ n) (h1 : n ≤ 128849018880000) (h : Hp) : F_ref48_share [.agg (encP p), I n] h = some (I (partOf p n), h) := by
  refine F_ref48_share_run rfl ?_ h
  have hbd := okP_bd hb
  obtain ⟨a, ha⟩ := Int.eq_ofNat_of_zero_le hbd.2.2.1
  obtain ⟨b, hb'⟩ := Int.eq_ofNat_of_zero_le h0
  obtain ⟨c, hc⟩ := Int.eq_ofNat_of_zero_le (show 0 ≤ p.alc by omega)
  have fP := F_ref01_Proportion_val a b c (by omega) (by omega) (by omega) (by omega)
  have hm : (amt p.duty && amt n && amt p.alc) = true := by simp [amt]; omega
  have e : partOf p n = if a * b / c ≤ 128849018880000 then ((a * b / c : Nat) : Int) else 0 := by
    unfold partOf propOf
    rw [hm, ha, hb', hc]
    have e1 : ((a : Int) * (b : Int) / (c : Int)) = ((a * b / c : Nat) : Int) := by push_cast; rfl
    rw [e1]
    have e2 : ¬ (c = 0) := by omega
    generalize a * b / c = q at *
    by_cases hq : q ≤ 128849018880000
    · have hq' : (q : Int) ≤ 128849018880000 := by omega
      simp [e2, hq, hq']
    · have hq' : ¬ (q : Int) ≤ 128849018880000 := by omega
      simp [e2, hq, hq']
  rw [e]
  generalize a * b / c = q at *
  generalize a * b % c = r at *
  by_cases hq : q ≤ 128849018880000
  · simp [f_ref48_share, encP, boxE, ha, hb', hc, fP, hq]
  · simp [f_ref48_share, encP, boxE, ha, hb', hc, fP, hq]
end Go.AM

/- drawback, the reference: Refund. -/
namespace Go.AM
open Go.Proofs
set_option linter.unusedVariables false
set_option linter.unusedSimpArgs false
set_option linter.constructorNameAsVariable false
set_option maxRecDepth 20000
theorem G_ref48_share_val (p : Paid) (n : Int) (hb : badP p = false) (h0 : 0 ≤ n) (h1 : n ≤ 128849018880000) (h : Hp) (base : Nat) : G_ref48_share [.agg (encP p), I n] h base = some (I (partOf p n), EF []) := (closedXD_val (F_ref48_share_val p n hb h0 h1 h) base).trans (by simp [idss, ids, encP])
section
variable {β : Type} {N : Nat} {x0 : AV → Hp → Option β} {xr : AV → AV → AV → Hp → Option β}
theorem rRefund_L2 {l : List Paid} {claims : List Claim} {limit : Int} (hl : l.length ≤ 65) (hlb : ∀ p ∈ l, badP p = false) (hn : claims.length ≤ 65) (b1 b2 : Bool) : ∀ (n : Nat) (pre post : List Claim) (outs : List Int) (v : AV) (h : Hp), claims = pre ++ post → post.length < n → outs.length = pre.length → Gro 1 encI h v outs → Within l pre → (∀ c ∈ pre, 0 ≤ c.alc ∧ c.alc ≤ 10737418240000) →
    match runC l limit pre post with
    | .inl (j, e) => e ≠ 0 ∧ ∃ H, f_ref48_Refund_L2 Try.prog t_ref48_Refund d_ref48_Refund N x0 xr n (.lst 5 b1 (l.map encP)) (.lst 3 b2 (claims.map encC)) (I limit) v (I pre.length) h = xr nilS (I j) (I e) H
    | .inr r => ∃ v' h', f_ref48_Refund_L2 Try.prog t_ref48_Refund d_ref48_Refund N x0 xr n (.lst 5 b1 (l.map encP)) (.lst 3 b2 (claims.map encC)) (I limit) v (I pre.length) h = x0 v' h' ∧ Gro 1 encI h' v' (outs ++ r) := by
  intro n
  induction n with
  | zero => intro pre post outs v h _ h1; omega
  | succ n ih =>
    intro pre post outs v h hc hpn ho G W hca
    have e0 : f_ref48_Refund_L2 Try.prog t_ref48_Refund d_ref48_Refund N x0 xr (n + 1) (.lst 5 b1 (l.map encP)) (.lst 3 b2 (claims.map encC)) (I limit) v (I pre.length) h = f_ref48_Refund_b2 Try.prog t_ref48_Refund d_ref48_Refund N (f_ref48_Refund_L2 Try.prog t_ref48_Refund d_ref48_Refund N x0 xr n) x0 xr (.lst 5 b1 (l.map encP)) (.lst 3 b2 (claims.map encC)) (I limit) v (I pre.length) h := rfl
    rw [e0]
    cases post with
    | nil =>
      have hcl : claims = pre := by simpa using hc
      subst hcl
      simp only [runC]
      exact ⟨v, h, by simp [f_ref48_Refund_b2], by simpa using G⟩
    | cons c post =>
      have hi : pre.length < claims.length := by rw [hc]; simp
      have hx : claims[pre.length]? = some c := by rw [hc]; simp
      have hlt : ((pre.length : Int) < (claims.length : Int)) := by omega
      have hw : IntKind.i64.wrap ((pre.length : Int) + 1) = (((pre ++ [c]).length : Nat) : Int) := by rw [wrap64 (by omega) (by omega)]; simp
      have hsl : ∀ k : Go.AM.K β, sliceK 3 (.lst 3 b2 (claims.map encC)) none (some (I pre.length)) none k = k (.lst 3 b2 (pre.map encC)) := fun k => by
        have : List.take pre.length (claims.map encC) = pre.map encC := by rw [hc, List.map_append]; exact List.take_left' (by simp)
        simp [sliceK, boundOr, this]; omega
      have fr := fun h => F_ref48_refused_val l (by omega) hlb pre (by omega) hca b1 b2 c limit h
      have ff := fun h => F_ref48_find_val l (by omega) b1 c.paid h
      have fc := fun h => F_ref48_claimed_val pre (by omega) hca b2 c.paid h
      simp only [encC] at fr
      simp only [runC]
      by_cases he : errC l limit pre c = 0
      · rw [if_pos he]
        obtain ⟨p, hp, q1, q2, q3, -⟩ := err0 he
        have hb := hlb p (paidL_mem hp).1
        have hbd := okP_bd hb
        have hwi := W _ _ hp
        cases hk : ixOf l c.paid with
        | none => rw [ixOf_none hk] at hp; simp at hp
        | some k =>
          obtain ⟨p', hp1, hp2⟩ := ixOf_some hk
          rw [hp] at hp2
          obtain rfl := Option.some.inj hp2
          have e1 : ixI l c.paid = (k : Int) := by simp [ixI, hk]
          have w1 : IntKind.i64.wrap (claimedL pre c.paid + c.alc) = claimedL pre c.paid + c.alc := wrap64 (by omega) (by omega)
          have b1' := partOf_mono p (claimedL pre c.paid) (claimedL pre c.paid + c.alc) hb (by omega) (by omega) (by omega)
          have w2 : IntKind.i64.wrap (partOf p (claimedL pre c.paid + c.alc) - partOf p (claimedL pre c.paid)) = partOf p (claimedL pre c.paid + c.alc) - partOf p (claimedL pre c.paid) := wrap64 (by omega) (by omega)
          have g1 := G_ref48_share_val p (claimedL pre c.paid + c.alc) hb (by omega) (by omega)
          have g2 := G_ref48_share_val p (claimedL pre c.paid) hb (by omega) (by omega)
          have hrf : refundC l pre c = partOf p (claimedL pre c.paid + c.alc) - partOf p (claimedL pre c.paid) := by simp [refundC, hp]
          obtain ⟨z, hz⟩ : ∃ z, z = partOf p (claimedL pre c.paid + c.alc) - partOf p (claimedL pre c.paid) := ⟨_, rfl⟩
          rw [← hz] at w2 hrf
          obtain ⟨v', e, m1, m2, m3, m4, m5⟩ := (G.app [.arr 3 [encC c] true false, .arr 5 [encP p] true false, .arr 1 [encI z] true false]).snocE (by_ := 8) (m := h.length + 2) (z := z) (b := true) (by simp) (fun e => by have := G.lt e; omega) (by intro y _; rfl) (by omega)
          have step := ih (pre ++ [c]) post (outs ++ [z]) v' (ap (h ++ [.arr 3 [encC c] true false, .arr 5 [encP p] true false, .arr 1 [encI z] true false]) e) (by simpa using hc) (by simpa using hpn) (by simp [ho]) m2 (W.snoc he) (by
            intro d hd
            rcases List.mem_append.1 hd with hd | hd
            · exact hca d hd
            · simp at hd; subst hd; omega)
          have key : f_ref48_Refund_b2 Try.prog t_ref48_Refund d_ref48_Refund N (f_ref48_Refund_L2 Try.prog t_ref48_Refund d_ref48_Refund N x0 xr n) x0 xr (.lst 5 b1 (l.map encP)) (.lst 3 b2 (claims.map encC)) (I limit) v (I pre.length) h =
              f_ref48_Refund_L2 Try.prog t_ref48_Refund d_ref48_Refund N x0 xr n (.lst 5 b1 (l.map encP)) (.lst 3 b2 (claims.map encC)) (I limit) v' (I (pre ++ [c]).length) (ap (h ++ [.arr 3 [encC c] true false, .arr 5 [encP p] true false, .arr 1 [encI z] true false]) e) := by
            simp only [encP] at g1 g2
            simp [encC, encP, encI] at m1
            simp only [f_ref48_Refund_b2]
            simp [hlt, hx, encC, encP, encI, boxE, hsl, fr, ff, fc, he, e1, hp1, w1, g1, g2, ← hz, w2, effD_y, callE_F, bsE, fillS, m1, disjAll, disj2, wrOf, idsOf, hw]
          rw [key, hrf]
          revert step
          cases runC l limit (pre ++ [c]) post with
          | inl je => exact id
          | inr r =>
            rintro ⟨v2, h2, s1, s2⟩
            exact ⟨v2, h2, s1, by simpa using s2⟩
      · rw [if_neg he]
        refine ⟨he, h ++ [.arr 3 [encC c] true false], ?_⟩
        simp only [f_ref48_Refund_b2]
        simp [hlt, hx, encC, boxE, hsl, fr, he]
end
end Go.AM

/- drawback, the reference: Refund. -/
namespace Go.AM
open Go.Proofs
set_option linter.unusedVariables false
set_option linter.unusedSimpArgs false
set_option linter.constructorNameAsVariable false
set_option maxRecDepth 20000
theorem F_ref48_Refund_val (l : List Paid) (claims : List Claim) (hl : l.length ≤ 65) (hn : claims.length ≤ 65) (b1 b2 : Bool) (limit : Int) (h : Hp) : F_ref48_Refund [.lst 5 b1 (l.map encP), .lst 3 b2 (claims.map encC), I limit] h =
    some (.tup [SL 1 encI (refundS l claims limit).1.isEmpty (refundS l claims limit).1, I (refundS l claims limit).2.1, I (refundS l claims limit).2.2], h) := by
  have fk := F_ref48_Check_val l b1
  by_cases h1 : (checkP l).2 = 0
  · by_cases h2 : win limit 0 100000 = true
    · by_cases h3 : 64 < claims.length
      · have h3' : (64 : Int) < (claims.length : Int) := by omega
        have e : refundS l claims limit = ([], -1, 8) := by simp [refundS, carryS, h1, h2, h3]
        rw [e]
        refine (F_ref48_Refund_run (v := .tup [nilS, I (-1), I 8]) rfl ?_ h).trans rfl
        simp [f_ref48_Refund, fk, h1, F_ref48_between_val, h2, h3']
      · have h3' : ¬ (64 : Int) < (claims.length : Int) := by omega
        obtain ⟨c1, c2, c3⟩ := checkP_ok h1
        have L := rRefund_L2 (β := AV) (N := NN) (x0 := fun w58_11 h => f_ref48_Refund_j1 Try.prog t_ref48_Refund d_ref48_Refund NN (fun v g => cvt false g v) w58_11 h) (xr := fun w59_6 w59_7 w59_8 h => cvt false h (.tup [w59_6, w59_7, w59_8])) (limit := limit) hl c2 hn b1 b2 NN [] claims [] nilS [] rfl (by have := NN_ge; omega) rfl .nil (within_nil c2) (by simp)
        have e : refundS l claims limit = match runC l limit [] claims with | .inl (j, e) => ([], (j : Int), e) | .inr r => (r, -1, 0) := by
          unfold refundS carryS
          rw [if_neg (by simp [h1]), if_neg (by simp [h2]), if_neg h3]
          cases runC l limit [] claims <;> rfl
        rw [e]
        revert L
        cases runC l limit [] claims with
        | inl je =>
          rintro ⟨q1, H, q2⟩
          refine (F_ref48_Refund_run (v := .tup [nilS, I je.1, I je.2]) rfl ?_ h).trans rfl
          simp [f_ref48_Refund, fk, h1, F_ref48_between_val, h2, h3']
          exact q2.trans (by simp)
        | inr r =>
          rintro ⟨v', h', q1, G⟩
          obtain ⟨w, hw, q2⟩ := G.cvts (by intro x st; cases st <;> rfl)
          refine (F_ref48_Refund_run (v := .tup [w, I (-1), I 0]) rfl ?_ h).trans ?_
          · simp [f_ref48_Refund, fk, h1, F_ref48_between_val, h2, h3']
            exact q1.trans (by simp [f_ref48_Refund_j1, hw])
          · show some (AV.tup [nrm (.l 1) w, I (-1), I 0], h) = _
            rw [q2]
            simp
    · have h2' : win limit 0 100000 = false := by simpa using h2
      have e : refundS l claims limit = ([], -1, 2) := by simp [refundS, carryS, h1, h2']
      rw [e]
      refine (F_ref48_Refund_run (v := .tup [nilS, I (-1), I 2]) rfl ?_ h).trans rfl
      simp [f_ref48_Refund, fk, h1, F_ref48_between_val, h2']
  · have e : refundS l claims limit = ([], -1, 1) := by simp [refundS, carryS, h1]
    rw [e]
    refine (F_ref48_Refund_run (v := .tup [nilS, I (-1), I 1]) rfl ?_ h).trans rfl
    simp [f_ref48_Refund, fk, h1]
end Go.AM

/- drawback: DrawbackRefunds. -/
namespace Go.AM
open Go.Proofs
set_option linter.unusedVariables false
set_option linter.unusedSimpArgs false
set_option linter.constructorNameAsVariable false
set_option maxRecDepth 20000
theorem refundS_len (l : List Paid) (claims : List Claim) (limit : Int) : (refundS l claims limit).1.length ≤ 64 := by
  unfold refundS
  cases hS : carryS l claims limit with
  | inl je => simp
  | inr r => exact (carryS_within hS).2.2.2.1
theorem refunds_law (l : List Paid) (b1 : Bool) (claims : List Claim) (b2 : Bool) (limit : Int) : F_law48_DrawbackRefunds [SL 5 encP b1 l, SL 3 encC b2 claims, I limit] [] = some (B true, []) := by
  refine F_law48_DrawbackRefunds_run rfl ?_ []
  cases hf : few l.length claims.length with
  | false => simp [f_law48_DrawbackRefunds, F_law48_awake_val, F_ref48_Few_val, hf]
  | true =>
    obtain ⟨m1, m2⟩ := few_bd hf
    have c1 := F_slices_Clone_Paid_val l b1 (by omega)
    have c2 := F_slices_Clone_Claim_val claims b2 (by omega)
    have rf := F_drawback_Refund_val l claims
    have rr := F_ref48_Refund_val l claims m1 m2
    have hr := refundS_len l claims limit
    have eq : ∀ h, F_slices_Equal_int [SL 1 encI (refundS l claims limit).1.isEmpty (refundS l claims limit).1, SL 1 encI (refundS l claims limit).1.isEmpty (refundS l claims limit).1] h = some (B true, h) := fun h =>
      (F_slices_Equal_int_val (refundS l claims limit).1 (refundS l claims limit).1 _ _ (by omega) (by omega) h).trans (by rw [decide_eq_true rfl])
    simp [f_law48_DrawbackRefunds, F_law48_awake_val, F_ref48_Few_val, hf, c1, c2, rf, rr, F_drawback_Check_val, F_ref48_Check_val, eq]
end Go.AM

/- drawback, the reference: Left, Total, Overdue; DrawbackLeaves, DrawbackLate. -/
namespace Go.AM
open Go.Proofs
set_option linter.unusedVariables false
set_option linter.unusedSimpArgs false
set_option linter.constructorNameAsVariable false
set_option maxRecDepth 20000
theorem carryS_ne {l : List Paid} {claims : List Claim} {limit : Int} {je : Int × Int} (h : carryS l claims limit = .inl je) : je.2 ≠ 0 := by
  have hc := carry_val l claims false false limit
  rw [h] at hc
  exact hc.1
theorem carryS_claims {l : List Paid} {claims : List Claim} {limit : Int} {r : List Int} (h : carryS l claims limit = .inr r) {p : Paid} (hp : p ∈ l) : ∀ c ∈ claims, 0 ≤ c.alc ∧ c.alc ≤ 10737418240000 := by
  obtain ⟨h1, h2, h3, h4⟩ := carryS_inr h
  obtain ⟨c1, c2, c3⟩ := checkP_ok h1
  have := (runC_sum c2 (paidL_of_mem c3 hp) claims [] r (within_nil c2) h4).2.2
  exact fun c hc => ⟨(this c hc).1, (this c hc).2.1⟩
theorem F_ref48_Left_val (l : List Paid) (claims : List Claim) (hl : l.length ≤ 65) (hn : claims.length ≤ 65) (b1 b2 : Bool) (limit id : Int) (h : Hp) : F_ref48_Left [.lst 5 b1 (l.map encP), .lst 3 b2 (claims.map encC), I limit, I id] h =
    some (.tup [I (leftS l claims limit id).1, I (leftS l claims limit id).2.1, I (leftS l claims limit id).2.2], h) := by
  refine F_ref48_Left_run rfl ?_ h
  have rr := F_ref48_Refund_val l claims hl hn b1 b2 limit
  unfold refundS at rr
  unfold leftS
  revert rr
  cases hS : carryS l claims limit with
  | inl je =>
    intro rr
    have h1 := carryS_ne hS
    simp [f_ref48_Left, rr, h1]
  | inr r =>
    intro rr
    obtain ⟨c2, W, -⟩ := carryS_within hS
    have ff := fun h => F_ref48_find_val l (by omega) b1 id h
    cases hk : ixOf l id with
    | none =>
      have hp := ixOf_none hk
      have e1 : ixI l id = -1 := by simp [ixI, hk]
      rw [e1] at ff
      simp [f_ref48_Left, rr, ff, hp]
    | some k =>
      obtain ⟨p, hp1, hp⟩ := ixOf_some hk
      have e1 : ixI l id = (k : Int) := by simp [ixI, hk]
      rw [e1] at ff
      have hb := c2 p (paidL_mem hp).1
      have hbd := okP_bd hb
      have hw := W _ _ hp
      have fc := fun h => F_ref48_claimed_val claims (by omega) (carryS_claims hS (paidL_mem hp).1) b2 id h
      have q2 := partOf_bd p (claimedL claims id) (by omega) (by omega) (by omega)
      have w1 : IntKind.i64.wrap (p.alc - claimedL claims id) = p.alc - claimedL claims id := wrap64 (by omega) (by omega)
      have w2 : IntKind.i64.wrap (p.duty - partOf p (claimedL claims id)) = p.duty - partOf p (claimedL claims id) := wrap64 (by omega) (by omega)
      have g1 := G_ref48_share_val p (claimedL claims id) hb (by omega) (by omega)
      have hk0 : ¬ (k : Int) < 0 := by omega
      simp only [encP] at g1
      simp [f_ref48_Left, rr, ff, fc, hp, hk0, hp1, encP, effD_y, disjAll, disj2, wrOf, idsOf, callE_F, g1, w1, w2]
section
variable {β : Type} {P : Program} {T : Tab} {D : DTab} {N : Nat}
theorem rTotal_L2 {x0 : AV → Hp → Option β} (r : List Int) (b : Bool) (h : Hp) (hn : r.length ≤ 64) (hr : ∀ x ∈ r, -128849018880000 ≤ x ∧ x ≤ 128849018880000) : ∀ (n : Nat) (pre post : List Int), r = pre ++ post → post.length < n →
    f_ref48_Total_L2 P T D N x0 n (.lst 1 b (r.map encI)) (I pre.sum) (I pre.length) h = x0 (I r.sum) h := by
  intro n
  induction n with
  | zero => intro pre post _ h; omega
  | succ n ih =>
    intro pre post hp hn'
    show f_ref48_Total_b2 P T D N (f_ref48_Total_L2 P T D N x0 n) x0 _ _ _ _ = _
    cases post with
    | nil =>
      have : r = pre := by simpa using hp
      subst this
      simp [f_ref48_Total_b2]
    | cons x post =>
      have hi : pre.length < r.length := by rw [hp]; simp
      have hx : r[pre.length]? = some x := by rw [hp]; simp
      have hlt : ((pre.length : Int) < (r.length : Int)) := by omega
      have hw : IntKind.i64.wrap ((pre.length : Int) + 1) = (((pre ++ [x]).length : Nat) : Int) := by rw [wrap64 (by omega) (by omega)]; simp
      have hxb := hr x (by rw [hp]; simp)
      have hpb := sum_bd (B := 128849018880000) (by omega) pre (fun y hy => hr y (by rw [hp]; simp [hy]))
      have hs : IntKind.i64.wrap (pre.sum + x) = (pre ++ [x]).sum := by rw [wrap64 (by omega) (by omega)]; simp
      have := ih (pre ++ [x]) post (by simpa using hp) (by simpa using hn')
      rw [← this]
      simp [f_ref48_Total_b2, hlt, hx, encI, hw, hs]
end
theorem F_ref48_Total_val (l : List Paid) (claims : List Claim) (hl : l.length ≤ 65) (hn : claims.length ≤ 65) (b1 b2 : Bool) (limit : Int) (h : Hp) : F_ref48_Total [.lst 5 b1 (l.map encP), .lst 3 b2 (claims.map encC), I limit] h =
    some (.tup [I (totalS l claims limit).1, I (totalS l claims limit).2], h) := by
  refine F_ref48_Total_run rfl ?_ h
  have rr := F_ref48_Refund_val l claims hl hn b1 b2 limit
  unfold refundS at rr
  unfold totalS
  revert rr
  cases hS : carryS l claims limit with
  | inl je =>
    intro rr
    have h1 := carryS_ne hS
    simp [f_ref48_Total, rr, h1]
  | inr r =>
    intro rr
    obtain ⟨c2, W, hr1, hr2, hr3⟩ := carryS_within hS
    have := rTotal_L2 (P := Try.prog) (T := t_ref48_Total) (D := d_ref48_Total) (N := NN) (x0 := fun w13_11 h => f_ref48_Total_j1 Try.prog t_ref48_Total d_ref48_Total NN (fun v g => cvt false g v) w13_11 h) r (r.isEmpty && r.isEmpty) [] hr2 hr3 NN [] r rfl (by have := NN_ge; omega)
    simp [f_ref48_Total, rr]
    refine Eq.trans ?_ (this.trans ?_)
    · simp [SL]
    · simp [f_ref48_Total_j1]
section
variable {β : Type} {N : Nat} {x0 : AV → Hp → Option β}
theorem rOverdue_L2 {l : List Paid} {claims : List Claim} {limit day : Int} {b1 b2 : Bool} (hl : l.length ≤ 64) (hn : claims.length ≤ 65) (hca : ∀ p ∈ l, ∀ c ∈ claims, 0 ≤ c.alc ∧ c.alc ≤ 10737418240000) (hp : ∀ p ∈ l, badP p = false) (hd : 0 ≤ day ∧ day ≤ 100000) : ∀ (n : Nat) (pre post : List Paid) (v : AV) (g : Hp), l = pre ++ post → post.length < n → Gro 1 encI g v (overS (claimedL claims) limit day pre) →
    ∃ v' g', f_ref48_Overdue_L2 Try.prog t_ref48_Overdue d_ref48_Overdue N x0 n (.lst 5 b1 (l.map encP)) (.lst 3 b2 (claims.map encC)) (I limit) (I day) v (I pre.length) g = x0 v' g' ∧ Gro 1 encI g' v' (overS (claimedL claims) limit day l) := by
  intro n
  induction n with
  | zero => intro pre post v g _ h; omega
  | succ n ih =>
    intro pre post v g hp' hn' O
    have e0 : f_ref48_Overdue_L2 Try.prog t_ref48_Overdue d_ref48_Overdue N x0 (n + 1) (.lst 5 b1 (l.map encP)) (.lst 3 b2 (claims.map encC)) (I limit) (I day) v (I pre.length) g = f_ref48_Overdue_b2 Try.prog t_ref48_Overdue d_ref48_Overdue N (f_ref48_Overdue_L2 Try.prog t_ref48_Overdue d_ref48_Overdue N x0 n) x0 (.lst 5 b1 (l.map encP)) (.lst 3 b2 (claims.map encC)) (I limit) (I day) v (I pre.length) g := rfl
    rw [e0]
    cases post with
    | nil =>
      have : l = pre := by simpa using hp'
      subst this
      exact ⟨v, g, by simp [f_ref48_Overdue_b2], O⟩
    | cons p post =>
      have hi : pre.length < l.length := by rw [hp']; simp
      have hx : l[pre.length]? = some p := by rw [hp']; simp
      have hlt : ((pre.length : Int) < (l.length : Int)) := by omega
      have hw : IntKind.i64.wrap ((pre.length : Int) + 1) = (((pre ++ [p]).length : Nat) : Int) := by rw [wrap64 (by omega) (by omega)]; simp
      have hpm : p ∈ l := by rw [hp']; simp
      have hpb := okP_bd (hp p hpm)
      have hwd : IntKind.i64.wrap (day - p.day) = day - p.day := wrap64 (by omega) (by omega)
      have gc : ∀ (h : Hp) (base : Nat), G_ref48_claimed [.lst 3 b2 (claims.map encC), I p.id] h base = some (I (claimedL claims p.id), EF []) := fun h base => (closedXD_val (F_ref48_claimed_val claims hn (hca p hpm) b2 p.id h) base).trans (by simp [idss, ids])
      have hol : (overS (claimedL claims) limit day pre).length ≤ pre.length := by
        unfold overS; rw [List.length_map]; exact List.length_filter_le _ _
      by_cases hc : claimedL claims p.id < p.alc ∧ limit < day - p.day
      · have e1 : overS (claimedL claims) limit day (pre ++ [p]) = overS (claimedL claims) limit day pre ++ [p.id] := by simp [overS, hc]
        obtain ⟨v2, g2, k1, k2, -⟩ := (O.app [.arr 1 [encI p.id] true false]).snoc (β := β) (by_ := 8) (m := g.length) (z := p.id) (b := true) (by simp) (fun e => by have := O.lt e; omega) (by intro y _; rfl) (by omega)
        rw [← e1] at k2
        obtain ⟨v', g', h1, h2⟩ := ih (pre ++ [p]) post v2 g2 (by simpa using hp') (by simpa using hn') k2
        refine ⟨v', g', ?_, h2⟩
        rw [← h1]
        simp [encI] at k1
        simp [f_ref48_Overdue_b2, hlt, hx, encP, effD_y, callE_F, gc, hc.1, gopD_t, disjAll, disj2, wrOf, idsOf, hwd, hc.2, bsE, fillS, f_ref48_Overdue_j4, f_ref48_Overdue_j3, k1, hw]
      · have e1 : overS (claimedL claims) limit day (pre ++ [p]) = overS (claimedL claims) limit day pre := by
          have : (decide (claimedL claims p.id < p.alc) && decide (limit < day - p.day)) = false := by
            rw [Bool.and_eq_false_iff, decide_eq_false_iff_not, decide_eq_false_iff_not]; omega
          simp [overS, this]
        rw [← e1] at O
        obtain ⟨v', g', h1, h2⟩ := ih (pre ++ [p]) post v g (by simpa using hp') (by simpa using hn') O
        refine ⟨v', g', ?_, h2⟩
        rw [← h1]
        by_cases q1 : claimedL claims p.id < p.alc
        · have q2 : ¬ limit < day - p.day := fun q2 => hc ⟨q1, q2⟩
          simp [f_ref48_Overdue_b2, hlt, hx, encP, effD_y, callE_F, gc, q1, gopD_t, disjAll, disj2, wrOf, idsOf, hwd, q2, f_ref48_Overdue_j4, f_ref48_Overdue_j3, hw]
        · simp [f_ref48_Overdue_b2, hlt, hx, encP, effD_y, callE_F, gc, q1, gopD_f, disjAll, disj2, wrOf, idsOf, f_ref48_Overdue_j4, f_ref48_Overdue_j3, hw]
end
theorem F_ref48_Overdue_val (l : List Paid) (claims : List Claim) (hl : l.length ≤ 65) (hn : claims.length ≤ 65) (b1 b2 : Bool) (limit day : Int) (h : Hp) : F_ref48_Overdue [.lst 5 b1 (l.map encP), .lst 3 b2 (claims.map encC), I limit, I day] h =
    some (.tup [SL 1 encI (overdueS l claims limit day).1.isEmpty (overdueS l claims limit day).1, I (overdueS l claims limit day).2], h) := by
  have rr := F_ref48_Refund_val l claims hl hn b1 b2 limit
  unfold refundS at rr
  unfold overdueS
  revert rr
  cases hS : carryS l claims limit with
  | inl je =>
    intro rr
    have h1 := carryS_ne hS
    refine (F_ref48_Overdue_run (v := .tup [nilS, I je.2]) rfl ?_ h).trans rfl
    simp [f_ref48_Overdue, rr, h1]
  | inr r =>
    intro rr
    obtain ⟨c2, W, hr1, hr2, hr3⟩ := carryS_within hS
    have hlc := (checkP_ok (carryS_inr hS).1).1
    by_cases hd : win day 0 100000 = true
    · have hd2 : 0 ≤ day ∧ day ≤ 100000 := by simpa [win] using hd
      obtain ⟨v', g', k1, k2⟩ := rOverdue_L2 (N := NN) (x0 := fun w58_13 h => f_ref48_Overdue_j1 Try.prog t_ref48_Overdue d_ref48_Overdue NN (fun v g => cvt false g v) w58_13 h) (limit := limit) (b1 := b1) (b2 := b2) hlc hn (fun p hp => carryS_claims hS hp) c2 hd2 NN [] l nilS [] rfl (by have := NN_ge; omega) .nil
      obtain ⟨w, hw, q2⟩ := k2.cvts (by intro x st; cases st <;> rfl)
      refine (F_ref48_Overdue_run (v := .tup [w, I 0]) rfl ?_ h).trans ?_
      · simp [f_ref48_Overdue, rr, F_ref48_between_val, hd]
        refine Eq.trans ?_ (k1.trans ?_)
        · simp
        · simp [f_ref48_Overdue_j1, hw]
      · rw [if_pos hd]
        show some (AV.tup [nrm (.l 1) w, I 0], h) = _
        rw [q2]
        simp
    · have hd' : win day 0 100000 = false := by simpa using hd
      refine (F_ref48_Overdue_run (v := .tup [nilS, I 2]) rfl ?_ h).trans ?_
      · simp [f_ref48_Overdue, rr, F_ref48_between_val, hd']
      · rw [if_neg hd]; rfl
theorem leaves_law (l : List Paid) (b1 : Bool) (claims : List Claim) (b2 : Bool) (limit id : Int) : F_law48_DrawbackLeaves [SL 5 encP b1 l, SL 3 encC b2 claims, I limit, I id] [] = some (B true, []) := by
  refine F_law48_DrawbackLeaves_run rfl ?_ []
  cases hf : few l.length claims.length with
  | false => simp [f_law48_DrawbackLeaves, F_law48_awake_val, F_ref48_Few_val, hf]
  | true =>
    obtain ⟨m1, m2⟩ := few_bd hf
    have c1 := F_slices_Clone_Paid_val l b1 (by omega)
    have c2 := F_slices_Clone_Claim_val claims b2 (by omega)
    have lf := F_drawback_Left_val l claims
    have lr := F_ref48_Left_val l claims m1 m2
    have tf := F_drawback_Total_val l claims
    have tr := F_ref48_Total_val l claims m1 m2
    simp [f_law48_DrawbackLeaves, F_law48_awake_val, F_ref48_Few_val, hf, c1, c2, lf, lr, tf, tr]
theorem late_law (l : List Paid) (b1 : Bool) (claims : List Claim) (b2 : Bool) (limit day : Int) : F_law48_DrawbackLate [SL 5 encP b1 l, SL 3 encC b2 claims, I limit, I day] [] = some (B true, []) := by
  refine F_law48_DrawbackLate_run rfl ?_ []
  cases hf : few l.length claims.length with
  | false => simp [f_law48_DrawbackLate, F_law48_awake_val, F_ref48_Few_val, hf]
  | true =>
    obtain ⟨m1, m2⟩ := few_bd hf
    have c1 := F_slices_Clone_Paid_val l b1 (by omega)
    have c2 := F_slices_Clone_Claim_val claims b2 (by omega)
    have lf := F_drawback_Overdue_val l claims
    have lr := F_ref48_Overdue_val l claims m1 m2
    have hlen : (overdueS l claims limit day).1.length ≤ l.length := by
      unfold overdueS
      cases carryS l claims limit with
      | inl je => simp
      | inr r =>
        dsimp only
        split
        · unfold overS; rw [List.length_map]; exact List.length_filter_le _ _
        · simp
    have eq : ∀ h, F_slices_Equal_int [SL 1 encI (overdueS l claims limit day).1.isEmpty (overdueS l claims limit day).1, SL 1 encI (overdueS l claims limit day).1.isEmpty (overdueS l claims limit day).1] h = some (B true, h) := fun h =>
      (F_slices_Equal_int_val (overdueS l claims limit day).1 (overdueS l claims limit day).1 _ _ (by omega) (by omega) h).trans (by rw [decide_eq_true rfl])
    simp [f_law48_DrawbackLate, F_law48_awake_val, F_ref48_Few_val, hf, c1, c2, lf, lr, eq]
end Go.AM

/- Slices put one behind the other. -/
namespace Go.AM
set_option linter.unusedVariables false
variable {α β : Type} {sz : Nat} {enc : α → List AV} {h : Hp}
/-- A slice that holds a list. -/
structure Part (enc : α → List AV) (h : Hp) (p : AV × List α) : Prop where
  read : readSl h p.1 = some (p.2.map enc)
  len : lenK p.1 some = some (I p.2.length)
theorem Part.lenK {p : AV × List α} (q : Part enc h p) (k : K β) : Go.AM.lenK p.1 k = k (I p.2.length) := by rw [lenK_nat, q.len]; rfl
theorem Part.app {p : AV × List α} (q : Part enc h p) (g : List AObj) : Part enc (h ++ g) p := ⟨readSl_local q.read fun id _ o ho => get_app ho, q.len⟩
theorem Part.nil : Part enc h (nilS, []) := ⟨rfl, rfl⟩
theorem Part.lst (sz : Nat) (b : Bool) (l : List α) : Part enc h (.lst sz b (l.map enc), l) := ⟨rfl, by simp⟩
theorem Part.lst' (sz : Nat) (b : Bool) (l : List α) {es : List (List AV)} (he : es = l.map enc) : Part enc h (.lst sz b es, l) := by subst he; exact Part.lst sz b l
theorem Part.sl {sz id n : Nat} {b nl : Bool} {l : List α} (hid : h[id]? = some (.arr sz (l.map enc) true nl)) (hn : l.length = n) : Part enc h (.sl sz id 0 n n b, l) := by
  subst hn
  have ht : (l.map enc).take l.length = l.map enc := List.take_of_length_le (by simp)
  exact ⟨by simp [readSl, hid, ht], by simp⟩
def total (ps : List (AV × List α)) : Nat := (ps.map (·.2.length)).sum
def flat (ps : List (AV × List α)) : List α := ps.flatMap (·.2)
theorem total_snoc (ps : List (AV × List α)) (p : AV × List α) : total (ps ++ [p]) = total ps + p.2.length := by simp [total]
theorem total_app (ps qs : List (AV × List α)) : total (ps ++ qs) = total ps + total qs := by simp [total]
theorem total_cons (p : AV × List α) (ps : List (AV × List α)) : total (p :: ps) = p.2.length + total ps := by simp [total]
theorem flat_length' (ps : List (AV × List α)) : (flat ps).length = total ps := by
  induction ps with
  | nil => rfl
  | cons p ps ih => simp only [flat, List.flatMap_cons, List.length_append, total_cons] at ih ⊢; rw [ih]
theorem flat_snoc (ps : List (AV × List α)) (p : AV × List α) : flat (ps ++ [p]) = flat ps ++ p.2 := by simp [flat]
theorem sliceK_take {n : Nat} {b : Bool} {l : List α} (hn : n ≤ l.length) (k : K β) : sliceK sz (.lst sz b (l.map enc)) none (some (I n)) none k = k (.lst sz b ((l.take n).map enc)) := by
  simp only [sliceK, boundOr, List.length_map, Int.toNat_natCast]
  rw [if_pos (by omega)]
  simp only []
  rw [if_pos ⟨trivial, by omega, hn, by omega, by simp⟩]
  rw [List.drop_zero, Nat.sub_zero, List.map_take]
theorem sliceK_drop {n : Nat} {b : Bool} {l : List α} (hn : n ≤ l.length) (k : K β) : sliceK sz (.lst sz b (l.map enc)) (some (I n)) none none k = k (.lst sz b ((l.drop n).map enc)) := by
  simp only [sliceK, boundOr, List.length_map, Int.toNat_natCast]
  rw [if_pos (by omega)]
  simp only []
  rw [if_pos ⟨trivial, by omega, by omega, by omega, by simp⟩]
  rw [List.take_of_length_le (by simp), List.map_drop]
/-- An array that is filled from its beginning on. -/
theorem appE_fill {sz by_ n id base : Nat} {h : Hp} {A B news : List (List AV)} {x : AV} (hr : readSl h x = some news) (hid : h[id]? = some (.arr sz (A ++ B) true false)) (hn : A.length + B.length = n) (hl : news.length ≤ B.length) (hs : (news.all fun e => e.length == sz) = true) (hb : n * by_ ≤ 140737488355328) :
    appE sz by_ (.sl sz id 0 A.length n false) x h base = some (.sl sz id 0 (A.length + news.length) n false, ⟨[(id, .arr sz (A ++ news ++ B.drop news.length) true false)], [], id :: idsOf x⟩) := by
  have hb2 : (A.length + news.length) * by_ ≤ 140737488355328 := Nat.le_trans (Nat.mul_le_mul_right _ (by omega)) hb
  have hl2 : (A ++ B).length = n := by simpa using hn
  by_cases he : A.length = n
  · have hB : B = [] := List.eq_nil_of_length_eq_zero (by omega)
    subst hB
    have hN : news = [] := List.eq_nil_of_length_eq_zero (by simpa using hl)
    subst hN
    simp [appE, hr, hid, he, hb]
  · have h1 : (A ++ B).take A.length = A := by simp
    have h2 : (A ++ B).drop (A.length + news.length) = B.drop news.length := by rw [List.drop_append, List.drop_of_length_le (by omega)]; simp
    unfold appE
    simp only [hr, hid]
    rw [if_pos ⟨hl2, trivial, hb2, hs⟩, if_neg (by simp), if_neg (by omega), if_pos ⟨trivial, trivial, by omega⟩]
    simp only [Nat.zero_add, h1, h2]
end Go.AM

/- Concat. -/
namespace Go.AM
open Go.Proofs
set_option linter.unusedVariables false
set_option linter.unusedSimpArgs false
set_option linter.constructorNameAsVariable false
set_option maxRecDepth 20000
section
variable {β : Type} {P : Program} {T : Tab} {D : DTab} {N : Nat} {K : AV → Hp → Option β}
section
variable {x0 : AV → AV → Hp → Option β} {x2 : AV → Hp → Option β} {ps : List (AV × List Claim)} {nl : Bool}
theorem Grow_Claim_val (n : Nat) (h : Hp) (hn : n < 1000000) : R_slices_Grow_Claim [nilS, I n] h = some (if n = 0 then (nilS, h) else (.sl 3 h.length 0 0 n false, h ++ [.arr 3 (List.replicate n [I 0,I 0,I 0]) true false])) := by
  rw [R_slices_Grow_Claim_raw]
  have w0 : IntKind.i64.wrap 0 = 0 := wrap64 (by omega) (by omega)
  by_cases h0 : n = 0
  · subst h0
    simp [f_slices_Grow_Claim, f_slices_Grow_Claim_j1, f_slices_Grow_Claim_j2, capK, w0]
  · have h1 : ¬ (n : Int) < 0 := by omega
    have h2 : (0 : Int) < (n : Int) := by omega
    have h3 : (n : Int) * 24 ≤ 140737488355328 := by omega
    have w1 : IntKind.i64.wrap (n : Int) = (n : Int) := wrap64 (by omega) (by omega)
    simp [f_slices_Grow_Claim, f_slices_Grow_Claim_j1, f_slices_Grow_Claim_j2, capK, w0, h0, h1, h2, h3, show 0 < n by omega, w1, sliceK, boundOr, mkE, effK, ap]
theorem Concat_Claim_L4 {v0 : AV} {h : Hp} (hp : ∀ p ∈ ps, Part encC h p) (hm : ps.length < 1000000) (ht : total ps < 1000000) : ∀ (n : Nat) (pre post : List (AV × List Claim)), ps = pre ++ post → post.length < n →
    f_slices_Concat_Claim_L4 P T D N x0 n v0 (I (total pre)) (.lst 1 nl (ps.map fun p => [p.1])) (I ps.length) (I pre.length) h = x0 v0 (I (total ps)) h := by
  intro n
  induction n with
  | zero => intro pre post _ h; omega
  | succ n ih =>
    intro pre post hc hn
    show f_slices_Concat_Claim_b4 P T D N (f_slices_Concat_Claim_L4 P T D N x0 n) x0 _ _ _ _ _ h = _
    cases post with
    | nil =>
      have : ps = pre := by simpa using hc
      subst this
      simp [f_slices_Concat_Claim_b4]
    | cons p post =>
      have hi : pre.length < ps.length := by rw [hc]; simp
      have hx : ps[pre.length]? = some p := by rw [hc]; simp
      have hlt : ((pre.length : Int) < (ps.length : Int)) := by omega
      have hw : IntKind.i64.wrap ((pre.length : Int) + 1) = (((pre ++ [p]).length : Nat) : Int) := by rw [wrap64 (by omega) (by omega)]; simp
      have htp : total ps = total pre + (p.2.length + total post) := by rw [hc, total_app, total_cons]
      have hw2 : IntKind.i64.wrap ((total pre : Int) + (p.2.length : Int)) = ((total (pre ++ [p]) : Nat) : Int) := by rw [wrap64 (by omega) (by omega), total_snoc]; omega
      have h0 : ¬ ((total (pre ++ [p]) : Nat) : Int) < 0 := by omega
      have hL := fun k => (hp p (List.mem_of_getElem? hx)).lenK (β := β) k
      rw [← ih (pre ++ [p]) post (by simpa using hc) (by simpa using hn)]
      simp [f_slices_Concat_Claim_b4, hlt, hx, hL, hw2, h0, f_slices_Concat_Claim_j6, f_slices_Concat_Claim_j5, hw]
theorem Concat_Claim_L3 {h : Hp} (hp : ∀ p ∈ ps, Part encC h p) (hm : ps.length < 1000000) (ht : total ps < 1000000) : ∀ (n : Nat) (pre post : List (AV × List Claim)), ps = pre ++ post → post.length < n →
    f_slices_Concat_Claim_L3 P T D N x2 n (.sl 3 h.length 0 ((flat pre).map encC).length (total ps) false) (.lst 1 nl (ps.map fun p => [p.1])) (I ps.length) (I pre.length) (h ++ [.arr 3 ((flat pre).map encC ++ List.replicate (total ps - total pre) [I 0,I 0,I 0]) true false]) =
      x2 (.sl 3 h.length 0 (total ps) (total ps) false) (h ++ [.arr 3 ((flat ps).map encC) true false]) := by
  intro n
  induction n with
  | zero => intro pre post _ h; omega
  | succ n ih =>
    intro pre post hc hn
    show f_slices_Concat_Claim_b3 P T D N (f_slices_Concat_Claim_L3 P T D N x2 n) x2 _ _ _ _ _ = _
    cases post with
    | nil =>
      have : ps = pre := by simpa using hc
      subst this
      simp [f_slices_Concat_Claim_b3, flat_length']
    | cons p post =>
      have hi : pre.length < ps.length := by rw [hc]; simp
      have hx : ps[pre.length]? = some p := by rw [hc]; simp
      have hlt : ((pre.length : Int) < (ps.length : Int)) := by omega
      have hw : IntKind.i64.wrap ((pre.length : Int) + 1) = (((pre ++ [p]).length : Nat) : Int) := by rw [wrap64 (by omega) (by omega)]; simp
      have htp : total ps = total pre + (p.2.length + total post) := by rw [hc, total_app, total_cons]
      have hP := (hp p (List.mem_of_getElem? hx)).app [.arr 3 ((flat pre).map encC ++ List.replicate (total ps - total pre) [I 0,I 0,I 0]) true false]
      have hf := appE_fill (by_ := 24) (sz := 3) (n := total ps) (base := h.length + 1) hP.read (get_new0 h [.arr 3 ((flat pre).map encC ++ List.replicate (total ps - total pre) [I 0,I 0,I 0]) true false]) (by simp [flat_length']; omega) (by simp; omega) (by simp [encC]) (by omega)
      have e1 : ((flat pre).map encC).length + (p.2.map encC).length = ((flat (pre ++ [p])).map encC).length := by rw [flat_snoc]; simp
      have e2 : (flat pre).map encC ++ p.2.map encC ++ (List.replicate (total ps - total pre) [I 0,I 0,I 0]).drop (p.2.map encC).length = (flat (pre ++ [p])).map encC ++ List.replicate (total ps - total (pre ++ [p])) [I 0,I 0,I 0] := by
        rw [flat_snoc, List.map_append, List.drop_replicate, total_snoc, List.length_map, Nat.sub_sub]
      rw [e1, e2] at hf
      rw [← ih (pre ++ [p]) post (by simpa using hc) (by simpa using hn)]
      generalize ((flat pre).map encC).length = k1 at *
      generalize ((flat (pre ++ [p])).map encC).length = k2 at *
      generalize (flat pre).map encC ++ List.replicate (total ps - total pre) [I 0,I 0,I 0] = o1 at *
      generalize (flat (pre ++ [p])).map encC ++ List.replicate (total ps - total (pre ++ [p])) [I 0,I 0,I 0] = o2 at *
      simp [f_slices_Concat_Claim_b3, hlt, hx, hf, hw]
theorem Concat_Claim_L3_0 {h : Hp} (hp : ∀ p ∈ ps, Part encC h p) (hm : ps.length < 1000000) (ht : total ps = 0) : ∀ (n : Nat) (pre post : List (AV × List Claim)), ps = pre ++ post → post.length < n →
    f_slices_Concat_Claim_L3 P T D N x2 n nilS (.lst 1 nl (ps.map fun p => [p.1])) (I ps.length) (I pre.length) h = x2 nilS h := by
  intro n
  induction n with
  | zero => intro pre post _ h; omega
  | succ n ih =>
    intro pre post hc hn
    show f_slices_Concat_Claim_b3 P T D N (f_slices_Concat_Claim_L3 P T D N x2 n) x2 _ _ _ _ _ = _
    cases post with
    | nil =>
      have : ps = pre := by simpa using hc
      subst this
      simp [f_slices_Concat_Claim_b3]
    | cons p post =>
      have hi : pre.length < ps.length := by rw [hc]; simp
      have hx : ps[pre.length]? = some p := by rw [hc]; simp
      have hlt : ((pre.length : Int) < (ps.length : Int)) := by omega
      have hw : IntKind.i64.wrap ((pre.length : Int) + 1) = (((pre ++ [p]).length : Nat) : Int) := by rw [wrap64 (by omega) (by omega)]; simp
      have htp : total ps = total pre + (p.2.length + total post) := by rw [hc, total_app, total_cons]
      have hP := (hp p (List.mem_of_getElem? hx)).read
      have hpe : p.2 = [] := List.eq_nil_of_length_eq_zero (by omega)
      rw [hpe] at hP
      rw [← ih (pre ++ [p]) post (by simpa using hc) (by simpa using hn)]
      simp [f_slices_Concat_Claim_b3, hlt, hx, appE, hP, hw]
end
/-- Concat: a new array. -/
theorem F_slices_Concat_Claim_val (ps : List (AV × List Claim)) (nl : Bool) (h : Hp) {x0 : AV} (ha : cvts false h [x0] = some [.lst 1 nl (ps.map fun p => [p.1])]) (hp : ∀ p ∈ ps, (p.1 = nilS ∧ p.2 = []) ∨ ∃ b, p.1 = .lst 3 b (p.2.map encC)) (hm : ps.length < 1000000) (ht : total ps < 1000000) :
    F_slices_Concat_Claim [x0] h = some (SL 3 encC (flat ps).isEmpty (flat ps), h) := by
  have hP : ∀ (h : Hp), ∀ p ∈ ps, Part encC h p := fun h p hm => by
    obtain ⟨v, l⟩ := p
    rcases hp _ hm with ⟨e1, e2⟩ | ⟨b, e1⟩
    · dsimp only at e1 e2; subst e1 e2; exact .nil
    · dsimp only at e1; subst e1; exact .lst 3 b l
  have run : ∀ st, f_slices_Concat_Claim Try.prog t_slices_Concat_Claim d_slices_Concat_Claim NN (fun v g => cvt st g v) (nrm (.l 1) (.lst 1 nl (ps.map fun p => [p.1]))) [] = some (if total ps = 0 then nilS else .lst 3 false ((flat ps).map encC)) := by
    intro st
    have l4 := Concat_Claim_L4 (P := Try.prog) (T := t_slices_Concat_Claim) (D := d_slices_Concat_Claim) (N := NN) (x0 := fun w19_0 w19_3 h => f_slices_Concat_Claim_j1 Try.prog t_slices_Concat_Claim d_slices_Concat_Claim NN (fun v g => cvt st g v) w19_0 w19_3 h) (v0 := .lst 1 nl (ps.map fun p => [p.1])) (nl := nl) (hP []) hm ht NN [] ps rfl (by have := NN_ge; omega)
    refine Eq.trans ?_ (l4.trans ?_)
    · simp [f_slices_Concat_Claim, total]
    · have g := Grow_Claim_val (total ps) [] ht
      by_cases h0 : total ps = 0
      · have l3 := Concat_Claim_L3_0 (P := Try.prog) (T := t_slices_Concat_Claim) (D := d_slices_Concat_Claim) (N := NN) (x2 := fun w11_6 h => f_slices_Concat_Claim_j2 Try.prog t_slices_Concat_Claim d_slices_Concat_Claim NN (fun v g => cvt st g v) w11_6 h) (nl := nl) (hP []) hm h0 NN [] ps rfl (by have := NN_ge; omega)
        rw [if_pos h0] at g ⊢
        simp [f_slices_Concat_Claim_j1, g]
        refine Eq.trans ?_ (l3.trans ?_) <;> simp [flat, total, f_slices_Concat_Claim_j2]
      · have l3 := Concat_Claim_L3 (P := Try.prog) (T := t_slices_Concat_Claim) (D := d_slices_Concat_Claim) (N := NN) (x2 := fun w11_6 h => f_slices_Concat_Claim_j2 Try.prog t_slices_Concat_Claim d_slices_Concat_Claim NN (fun v g => cvt st g v) w11_6 h) (nl := nl) (hP []) hm ht NN [] ps rfl (by have := NN_ge; omega)
        rw [if_neg h0] at g ⊢
        simp [f_slices_Concat_Claim_j1, g]
        refine Eq.trans ?_ (l3.trans ?_)
        · simp [flat, total]
        · have hok : okE st ((flat ps).map encC) = true := okE_map (by intro x; cases st <;> simp [encC, isS])
          simp only [f_slices_Concat_Claim_j2]
          exact cvt_whole (by simp) (by simp [flat_length']) (by simp [flat_length']) hok
  refine (F_slices_Concat_Claim_own ha run).trans ?_
  by_cases h0 : total ps = 0
  · have : flat ps = [] := List.eq_nil_of_length_eq_zero (by rw [flat_length', h0])
    rw [if_pos h0, this]; rfl
  · have : (flat ps).isEmpty = false := by
      rw [List.isEmpty_eq_false_iff]; intro e; rw [← flat_length', e] at h0; exact h0 rfl
    rw [if_neg h0, this]; rfl
end
end Go.AM

/- drawback: DrawbackDivided. -/
namespace Go.AM
open Go.Proofs
set_option linter.unusedVariables false
set_option linter.unusedSimpArgs false
set_option linter.constructorNameAsVariable false
set_option maxRecDepth 20000
theorem runC_congr {l : List Paid} {limit : Int} : ∀ (cs A B : List Claim) (r : List Int), claimedL A = claimedL B → lastL A = lastL B → runC l limit A cs = .inr r → runC l limit B cs = .inr r
  | [], A, B, r, _, _, h => by simpa [runC] using h
  | c :: cs, A, B, r, h1, h2, h => by
    have e1 : errC l limit B c = errC l limit A c := by simp [errC, h1, h2]
    have e2 : refundC l B c = refundC l A c := by simp [refundC, h1]
    simp only [runC] at h ⊢
    rw [e1, e2]
    by_cases he : errC l limit A c = 0
    · rw [if_pos he] at h ⊢
      cases hr : runC l limit (A ++ [c]) cs with
      | inl e => rw [hr] at h; simp at h
      | inr r' =>
        rw [hr] at h
        have := runC_congr cs (A ++ [c]) (B ++ [c]) r' (by funext n; rw [claimedL_snoc, claimedL_snoc, h1]) (by rw [lastL_snoc, lastL_snoc]) hr
        rw [this]; exact h
    · rw [if_neg he] at h; simp at h
theorem runC_app {l : List Paid} {limit : Int} : ∀ (as1 bs A : List Claim) (r : List Int), runC l limit A (as1 ++ bs) = .inr r → ∃ r1 r2, r = r1 ++ r2 ∧ r1.length = as1.length ∧ runC l limit A as1 = .inr r1 ∧ runC l limit (A ++ as1) bs = .inr r2
  | [], bs, A, r, h => ⟨[], r, rfl, rfl, rfl, by simpa using h⟩
  | c :: as1, bs, A, r, h => by
    simp only [List.cons_append, runC] at h ⊢
    by_cases he : errC l limit A c = 0
    · rw [if_pos he] at h ⊢
      cases hr : runC l limit (A ++ [c]) (as1 ++ bs) with
      | inl e => rw [hr] at h; simp at h
      | inr r' =>
        rw [hr] at h
        simp only [Sum.inr.injEq] at h
        obtain ⟨r1, r2, h1, h2, h3, h4⟩ := runC_app as1 bs (A ++ [c]) r' hr
        exact ⟨refundC l A c :: r1, r2, by rw [← h, h1]; rfl, by simp [h2], by rw [h3], by simpa using h4⟩
    · rw [if_neg he] at h; simp at h
theorem runC_join {l : List Paid} {limit : Int} : ∀ (as1 bs A : List Claim) (r1 r2 : List Int), runC l limit A as1 = .inr r1 → runC l limit (A ++ as1) bs = .inr r2 → runC l limit A (as1 ++ bs) = .inr (r1 ++ r2)
  | [], bs, A, r1, r2, h1, h2 => by
    simp only [runC, Sum.inr.injEq] at h1
    subst h1
    simpa using h2
  | c :: as1, bs, A, r1, r2, h1, h2 => by
    simp only [List.cons_append, runC] at h1 ⊢
    by_cases he : errC l limit A c = 0
    · rw [if_pos he] at h1 ⊢
      cases hr : runC l limit (A ++ [c]) as1 with
      | inl e => rw [hr] at h1; simp at h1
      | inr r' =>
        rw [hr] at h1
        simp only [Sum.inr.injEq] at h1
        subst h1
        rw [runC_join as1 bs (A ++ [c]) r' r2 hr (by simpa using h2)]
        rfl
    · rw [if_neg he] at h1; simp at h1
/-- A claim in two. -/
theorem runC_two {l : List Paid} {limit : Int} (hl : ∀ p ∈ l, badP p = false) {pre post : List Claim} {c : Claim} {f : Int} {r : List Int} (hf1 : 1 ≤ f) (hf2 : f < c.alc) (h : runC l limit [] (pre ++ c :: post) = .inr r) :
    ∃ r1 x y z r2, r = r1 ++ z :: r2 ∧ r1.length = pre.length ∧ x + y = z ∧ (-128849018880000 ≤ x ∧ x ≤ 128849018880000) ∧ (-128849018880000 ≤ y ∧ y ≤ 128849018880000) ∧ runC l limit [] (pre ++ ({ c with alc := f } :: { c with alc := c.alc - f } :: post)) = .inr (r1 ++ x :: y :: r2) := by
  obtain ⟨r1, r2', h1, h2, h3, h4⟩ := runC_app pre (c :: post) [] r h
  simp only [List.nil_append] at h4
  have W := (runC_inr hl pre [] r1 (within_nil hl) h3).1
  simp only [List.nil_append] at W
  simp only [runC] at h4
  by_cases he : errC l limit pre c = 0
  · rw [if_pos he] at h4
    cases hr : runC l limit (pre ++ [c]) post with
    | inl e => rw [hr] at h4; simp at h4
    | inr r2 =>
      rw [hr] at h4
      simp only [Sum.inr.injEq] at h4
      subst h4
      obtain ⟨p, hp, q1, q2, q3, q4, q5, q6⟩ := err0 he
      have hb := hl p (paidL_mem hp).1
      have hbd := okP_bd hb
      have hw := W _ _ hp
      obtain ⟨one, h1'⟩ : ∃ one : Claim, one = { c with alc := f } := ⟨_, rfl⟩
      obtain ⟨two, h2'⟩ : ∃ two : Claim, two = { c with alc := c.alc - f } := ⟨_, rfl⟩
      have b1 : bad1 c = false := by
        unfold errC stepErr at he
        split at he
        · omega
        · rename_i hb; simpa using hb
      have b0 : win c.paid 1 1073741824 = true ∧ win c.day 0 100000 = true := by simp [bad1] at b1; exact ⟨b1.1.1, b1.1.2⟩
      have bOne : bad1 one = false := by rw [h1']; simp [bad1, b0]; simp [win]; omega
      have bTwo : bad1 two = false := by rw [h2']; simp [bad1, b0]; simp [win]; omega
      have hp1 : paidL l one.paid = some p := by rw [h1']; exact hp
      have hp2 : paidL l two.paid = some p := by rw [h2']; exact hp
      have e1 : errC l limit pre one = 0 := by
        have g1 : one.day = c.day := by rw [h1']
        have g2 : one.paid = c.paid := by rw [h1']
        have g3 : one.alc = f := by rw [h1']
        unfold errC stepErr
        rw [bOne, hp1, g1, g2, g3]
        simp [show ¬ c.day < lastL pre by omega, show ¬ c.day < p.day by omega, show ¬ limit < c.day - p.day by omega, show ¬ p.alc < claimedL pre c.paid + f by omega]
      have cl1 : claimedL (pre ++ [one]) c.paid = claimedL pre c.paid + f := by
        rw [claimedL_snoc, if_pos (by rw [h1']), h1']
      have e2 : errC l limit (pre ++ [one]) two = 0 := by
        have g1 : two.day = c.day := by rw [h2']
        have g2 : two.paid = c.paid := by rw [h2']
        have g3 : two.alc = c.alc - f := by rw [h2']
        have g4 : lastL (pre ++ [one]) = c.day := by rw [lastL_snoc, h1']
        unfold errC stepErr
        rw [bTwo, hp2, g1, g2, g3, g4, cl1]
        simp [show ¬ c.day < p.day by omega, show ¬ limit < c.day - p.day by omega, show ¬ p.alc < claimedL pre c.paid + f + (c.alc - f) by omega]
      have f0 : refundC l pre c = partOf p (claimedL pre c.paid + c.alc) - partOf p (claimedL pre c.paid) := by simp [refundC, hp]
      have f1 : refundC l pre one = partOf p (claimedL pre c.paid + f) - partOf p (claimedL pre c.paid) := by
        unfold refundC; rw [hp1, h1']
      have f2 : refundC l (pre ++ [one]) two = partOf p (claimedL pre c.paid + c.alc) - partOf p (claimedL pre c.paid + f) := by
        unfold refundC; rw [hp2]
        have g2 : two.paid = c.paid := by rw [h2']
        have g3 : two.alc = c.alc - f := by rw [h2']
        rw [g2, g3, cl1, show claimedL pre c.paid + f + (c.alc - f) = claimedL pre c.paid + c.alc by omega]
      have d1 := partOf_bd p (claimedL pre c.paid + c.alc) (by omega) (by omega) (by omega)
      have d2 := partOf_bd p (claimedL pre c.paid) (by omega) (by omega) (by omega)
      have d3 := partOf_bd p (claimedL pre c.paid + f) (by omega) (by omega) (by omega)
      have hr2 : runC l limit (pre ++ [one] ++ [two]) post = .inr r2 := by
        refine runC_congr post (pre ++ [c]) _ r2 ?_ ?_ hr
        · funext n
          rw [claimedL_snoc, claimedL_snoc, claimedL_snoc]
          have g1 : one.paid = c.paid := by rw [h1']
          have g2 : two.paid = c.paid := by rw [h2']
          have g3 : one.alc = f := by rw [h1']
          have g4 : two.alc = c.alc - f := by rw [h2']
          rw [g1, g2, g3, g4]
          split <;> omega
        · rw [lastL_snoc, lastL_snoc, h2']
      refine ⟨r1, refundC l pre one, refundC l (pre ++ [one]) two, refundC l pre c, r2, h1, h2, by omega, by omega, by omega, ?_⟩
      rw [← h1', ← h2']
      refine runC_join pre (one :: two :: post) [] r1 _ h3 ?_
      simp only [List.nil_append, runC]
      rw [if_pos e1, if_pos e2, hr2]
  · rw [if_neg he] at h4; simp at h4
theorem G_drawback_Refund_val (l : List Paid) (claims : List Claim) (b1 b2 : Bool) (limit : Int) (h : Hp) (base : Nat) : G_drawback_Refund [.lst 5 b1 (l.map encP), .lst 3 b2 (claims.map encC), I limit] h base =
    some (.tup [SL 1 encI (refundS l claims limit).1.isEmpty (refundS l claims limit).1, I (refundS l claims limit).2.1, I (refundS l claims limit).2.2], EF []) := (closedXD_val (F_drawback_Refund_val l claims b1 b2 limit h) base).trans (by simp [idss, ids])
theorem few_mono {a b : Nat} (h : few a b = true) (hb : b ≤ 11) : a ≤ 65 := (few_bd h).1
set_option maxHeartbeats 1000000 in
theorem divided_law (l : List Paid) (b1 : Bool) (claims : List Claim) (b2 : Bool) (limit : Int) (which : Int) (hw : 0 ≤ which ∧ which ≤ 255) (part : Int) (hp : 0 ≤ part ∧ part ≤ 255) : F_law48_DrawbackDivided [SL 5 encP b1 l, SL 3 encC b2 claims, I limit, .s (.int .u8 which), .s (.int .u8 part)] [] = some (B true, []) := by
  refine F_law48_DrawbackDivided_run rfl ?_ []
  cases hf : few l.length claims.length with
  | false => simp [f_law48_DrawbackDivided, F_law48_awake_val, F_ref48_Few_val, hf]
  | true =>
    obtain ⟨m1, m2⟩ := few_bd hf
    by_cases h0 : claims.length = 0
    · simp [f_law48_DrawbackDivided, F_law48_awake_val, F_ref48_Few_val, hf, h0]
    by_cases h11 : 11 < claims.length
    · have h11' : (11 : Int) < (claims.length : Int) := by omega
      have h0' : ¬ (claims.length : Int) = 0 := by omega
      simp [f_law48_DrawbackDivided, F_law48_awake_val, F_ref48_Few_val, hf, h0, h0', h11, h11']
    have h11' : ¬ (11 : Int) < (claims.length : Int) := by omega
    have h0' : ¬ (claims.length : Int) = 0 := by omega
    obtain ⟨w, rfl⟩ := Int.eq_ofNat_of_zero_le hw.1
    obtain ⟨t, rfl⟩ := Int.eq_ofNat_of_zero_le hp.1
    have cw : ∀ k : Go.AM.K AV, convK Try.prog 5 3 (.s (.int .u8 (w : Int))) k = k (I w) := fun k => by rw [convK_int un_5 un_3, wrap64 (by omega) (by omega)]
    have ct : ∀ k : Go.AM.K AV, convK Try.prog 5 3 (.s (.int .u8 (t : Int))) k = k (I t) := fun k => by rw [convK_int un_5 un_3, wrap64 (by omega) (by omega)]
    have cr : ∀ k : Go.AM.K AV, reckK Try.prog .rem 3 (I w) (I claims.length) k = k (I ((w % claims.length : Nat) : Int)) := fun k => reck_remI w claims.length h0 k
    have hkl : w % claims.length < claims.length := Nat.mod_lt _ (by omega)
    generalize w % claims.length = kk at *
    have c1 := F_slices_Clone_Paid_val l b1 (by omega)
    have c2 := F_slices_Clone_Claim_val claims b2 (by omega)
    have rf := F_drawback_Refund_val l claims
    cases hS : carryS l claims limit with
    | inl je =>
      have he := carryS_inl hS
      have e1 : refundS l claims limit = ([], je.1, je.2) := by simp [refundS, hS]
      have he' : (je.2 == 0) = false := by simpa using he
      simp [f_law48_DrawbackDivided, F_law48_awake_val, F_ref48_Few_val, hf, h0, h0', h11, h11', c1, c2, rf, e1, he', cw, cr]
    | inr r =>
      obtain ⟨g1, g2, g3, g4, g5⟩ := carryS_within hS
      obtain ⟨i1, i2, i3, i4⟩ := carryS_inr hS
      have e1 : refundS l claims limit = (r, -1, 0) := by simp [refundS, hS]
      obtain ⟨c, hc⟩ : ∃ c, claims[kk]? = some c := ⟨_, List.getElem?_eq_getElem hkl⟩
      by_cases hc2 : c.alc < 2
      · simp [f_law48_DrawbackDivided, F_law48_awake_val, F_ref48_Few_val, hf, h0, h0', h11, h11', c1, c2, rf, e1, cw, cr, g3, hc, encC, hc2]
      obtain ⟨pre, post, hpl, hcl⟩ : ∃ pre post, pre.length = kk ∧ claims = pre ++ c :: post := by
        refine ⟨claims.take kk, claims.drop (kk + 1), by simp; omega, ?_⟩
        have : claims[kk] = c := by rw [List.getElem?_eq_getElem hkl] at hc; exact Option.some.inj hc
        rw [← this, ← List.drop_eq_getElem_cons hkl, List.take_append_drop]
      have hcb : c.alc ≤ 10737418240000 := by
        have hrr := i4
        rw [hcl] at hrr
        obtain ⟨_, r2', _, _, _, h4⟩ := runC_app pre (c :: post) [] r hrr
        simp only [runC] at h4
        by_cases he : errC l limit ([] ++ pre) c = 0
        · obtain ⟨p, -, -, q2, -⟩ := err0 he; exact q2.2
        · rw [if_neg he] at h4; simp at h4
      obtain ⟨d, hd⟩ : ∃ d : Nat, c.alc - 2 = (d : Int) := Int.eq_ofNat_of_zero_le (by omega)
      have cq0 : ∀ k : Go.AM.K AV, reckK Try.prog .quo 3 (I d) (I 256) k = k (I ((d / 256 : Nat) : Int)) := fun k => reck_quoI d 256 (by omega) (by omega) k
      have hft : d / 256 * t ≤ d := by
        have q1 : d / 256 * t ≤ d / 256 * 255 := Nat.mul_le_mul_left _ (by omega)
        have q2 : d / 256 * 256 ≤ d := Nat.div_mul_le_self d 256
        omega
      obtain ⟨q, hq⟩ : ∃ q, q = d / 256 := ⟨_, rfl⟩
      rw [← hq] at cq0 hft
      have cq : ∀ k : Go.AM.K AV, reckK Try.prog .quo 3 (I d) (I 256) k = k (I (q : Int)) := cq0
      obtain ⟨qt, hqt⟩ : ∃ qt, qt = q * t := ⟨_, rfl⟩
      rw [← hqt] at hft
      obtain ⟨f, hfq⟩ : ∃ f : Nat, f = 1 + qt := ⟨_, rfl⟩
      have hw1 : IntKind.i64.wrap (c.alc - 2) = (d : Int) := by rw [hd]; exact wrap64 (by omega) (by omega)
      have hw2 : IntKind.i64.wrap ((q : Int) * (t : Int)) = (qt : Int) := by rw [← Int.natCast_mul, ← hqt]; exact wrap64 (by omega) (by omega)
      have hw3 : IntKind.i64.wrap (1 + (qt : Int)) = (f : Int) := by rw [hfq]; rw [wrap64 (by omega) (by omega)]; omega
      have hw4 : IntKind.i64.wrap (c.alc - (f : Int)) = c.alc - f := wrap64 (by omega) (by omega)
      have hw5 : IntKind.i64.wrap ((kk : Int) + 1) = (kk : Int) + 1 := wrap64 (by omega) (by omega)
      have hw6 : IntKind.i64.wrap ((kk : Int) + 2) = (kk : Int) + 2 := wrap64 (by omega) (by omega)
      have hw7 : IntKind.i64.wrap ((r.length : Int) + 1) = (r.length : Int) + 1 := wrap64 (by omega) (by omega)
      have i4' := i4
      rw [hcl] at i4'
      obtain ⟨r1, x, y, z, r2, t1, t2, t3, t4, t5, t6⟩ := runC_two g1 (f := (f : Int)) (by omega) (by omega) i4'
      have hw8 : IntKind.i64.wrap (x + y) = z := by rw [wrap64 (by omega) (by omega), t3]
      obtain ⟨two, htwo⟩ : ∃ two : List Claim, two = [({ c with alc := (f : Int) } : Claim), { c with alc := c.alc - f }] := ⟨_, rfl⟩
      have e5 : refundS l (pre ++ (two ++ post)) limit = (r1 ++ x :: y :: r2, -1, 0) := by
        have : (pre ++ (two ++ post)).length ≤ 64 := by rw [hcl] at h11; rw [htwo]; simp at h11 ⊢; omega
        unfold refundS carryS
        rw [if_neg (by simp [i1]), if_neg (by simp [i2]), if_neg (by omega)]
        have : runC l limit [] (pre ++ (two ++ post)) = .inr (r1 ++ x :: y :: r2) := by rw [htwo]; exact t6
        rw [this]
      have gc := G_slices_Clone_Paid_val l b1 (by omega)
      have gr := G_drawback_Refund_val l (pre ++ (two ++ post))
      have sl1 : ∀ (b : Bool) (k : Go.AM.K AV), sliceK 3 (.lst 3 b (claims.map encC)) none (some (I kk)) none k = k (.lst 3 b (pre.map encC)) := fun b k => by
        rw [sliceK_take (by omega), show claims.take kk = pre by rw [hcl]; exact List.take_left' hpl]
      have sl2 : ∀ (b : Bool) (k : Go.AM.K AV), sliceK 3 (.lst 3 b (claims.map encC)) (some (I ((kk : Int) + 1))) none none k = k (.lst 3 b (post.map encC)) := fun b k => by
        rw [show (kk : Int) + 1 = ((kk + 1 : Nat) : Int) by omega, sliceK_drop (by omega), show claims.drop (kk + 1) = post by rw [hcl, ← hpl, List.drop_append]; simp]
      obtain ⟨H, hH⟩ : ∃ H : Hp, H = [.arr 3 [[I c.paid, I c.day, I f]] true false, .arr 3 [[I c.paid, I c.day, I (c.alc - f)]] true false, .arr 3 [[I c.paid, I c.day, I f], [I c.paid, I c.day, I (c.alc - f)]] true false, .arr 1 [[.lst 3 false (pre.map encC)], [.sl 3 2 0 2 2 true], [.lst 3 false (post.map encC)]] true false] := ⟨_, rfl⟩
      have gcat : G_slices_Concat_Claim [.sl 1 3 0 3 3 true] H 4 = some (SL 3 encC (pre ++ (two ++ post)).isEmpty (pre ++ (two ++ post)), EF [3, 2]) := by
        have hf2 : flat [((.lst 3 false (pre.map encC) : AV), pre), (.lst 3 false (two.map encC), two), (.lst 3 false (post.map encC), post)] = pre ++ (two ++ post) := by simp [flat]
        have ht : total [((.lst 3 false (pre.map encC) : AV), pre), (.lst 3 false (two.map encC), two), (.lst 3 false (post.map encC), post)] < 1000000 := by
          rw [hcl] at m2; simp [htwo, total] at m2 ⊢; omega
        have := F_slices_Concat_Claim_val [((.lst 3 false (pre.map encC) : AV), pre), (.lst 3 false (two.map encC), two), (.lst 3 false (post.map encC), post)] false H (x0 := .sl 1 3 0 3 3 true)
          (by rw [hH, htwo]; simp [cvts, cvt, cvtE, cvtCs, cvtC, cvt1, okE, plain, encC]) (by simp) (by simp) ht
        rw [hf2] at this
        refine (closedXD_val this 4).trans ?_
        rw [hH]; simp [idsN, inner, idss, ids]
      have hemp : claims.isEmpty = false := by
        rw [List.isEmpty_eq_false_iff]; rintro rfl; exact h0 rfl
      obtain ⟨cl2, hcl2⟩ : ∃ cl2, cl2 = pre ++ (two ++ post) := ⟨_, rfl⟩
      rw [← hcl2] at gr gcat e5
      obtain ⟨R, hR⟩ : ∃ R, R = r1 ++ x :: y :: r2 := ⟨_, rfl⟩
      rw [← hR] at e5
      have gr' : ∀ (b1 b2 : Bool) (h : Hp) (base : Nat), G_drawback_Refund [.lst 5 b1 (l.map encP), .lst 3 b2 (cl2.map encC), I limit] h base = some (.tup [SL 1 encI R.isEmpty R, I (-1), I 0], EF []) := fun b1 b2 h base => by rw [gr, e5]
      rw [hH] at gcat
      simp only [SL, hemp, Bool.and_false] at c2
      simp [f_law48_DrawbackDivided, F_law48_awake_val, F_ref48_Few_val, hf, h0, h0', h11, h11', c1, c2, rf, e1, cw, cr, g3, hc, encC, hc2, hw1, cq, ct, hw2, hw3, hw4, hw5, sl1, sl2, boxE, bsE, fillS, effD_y, callE_F, disjAll, disj2, wrOf, idsOf, gc, SL, hemp]
      simp only [I] at gcat gr'
      simp only [I, gcat, effD_y, SL, List.length_cons, List.length_nil, Nat.zero_add, Nat.reduceAdd, gr']
      have hlr : R.length = r.length + 1 := by rw [hR, t1]; simp; omega
      have hz : r[kk]? = some z := by rw [t1, ← hpl, ← t2]; simp
      have hx : R[kk]? = some x := by rw [hR, ← hpl, ← t2]; simp
      have hy : R[kk + 1]? = some y := by rw [hR, ← hpl, ← t2, List.getElem?_append_right (by omega)]; simp
      have ia2 : ∀ (b : Bool) (k : Go.AM.K AV), iaK 1 (.lst 1 b (R.map encI)) (I ((kk : Int) + 1)) k = k (.ep (encI y) 0) := fun b k => iaK_at (kk + 1) (by omega) hy k
      have ia1 : ∀ (b : Bool) (k : Go.AM.K AV), iaK 1 (.lst 1 b (R.map encI)) (I kk) k = k (.ep (encI x) 0) := fun b k => iaK_at kk rfl hx k
      have s1 : ∀ (b : Bool) (k : Go.AM.K AV), sliceK 1 (.lst 1 b (R.map encI)) none (some (I kk)) none k = k (.lst 1 b (r1.map encI)) := fun b k => by
        rw [sliceK_take (by omega), show R.take kk = r1 by rw [hR]; exact List.take_left' (by omega)]
      have s2 : ∀ (b : Bool) (k : Go.AM.K AV), sliceK 1 (.lst 1 b (r.map encI)) none (some (I kk)) none k = k (.lst 1 b (r1.map encI)) := fun b k => by
        rw [sliceK_take (by omega), show r.take kk = r1 by rw [t1]; exact List.take_left' (by omega)]
      have s3 : ∀ (b : Bool) (k : Go.AM.K AV), sliceK 1 (.lst 1 b (R.map encI)) (some (I ((kk : Int) + 2))) none none k = k (.lst 1 b (r2.map encI)) := fun b k => by
        rw [show (kk : Int) + 2 = ((kk + 2 : Nat) : Int) by omega, sliceK_drop (by omega), show R.drop (kk + 2) = r2 by rw [hR, ← hpl, ← t2, List.drop_append]; simp]
      have s4 : ∀ (b : Bool) (k : Go.AM.K AV), sliceK 1 (.lst 1 b (r.map encI)) (some (I ((kk : Int) + 1))) none none k = k (.lst 1 b (r2.map encI)) := fun b k => by
        rw [show (kk : Int) + 1 = ((kk + 1 : Nat) : Int) by omega, sliceK_drop (by omega), show r.drop (kk + 1) = r2 by rw [t1, ← hpl, ← t2, List.drop_append]; simp]
      have hl1 : r1.length < 1000000 := by omega
      have hl2 : r2.length < 1000000 := by rw [t1] at g4; simp at g4; omega
      have q1 := fun b b' h => (F_slices_Equal_int_val r1 r1 b b' hl1 hl1 h).trans (by rw [decide_eq_true rfl])
      have q2 := fun b b' h => (F_slices_Equal_int_val r2 r2 b b' hl2 hl2 h).trans (by rw [decide_eq_true rfl])
      have hw9 : IntKind.i64.wrap ((claims.length : Int) + 1) = (claims.length : Int) + 1 := wrap64 (by omega) (by omega)
      have hlr' : (R.length : Int) = (claims.length : Int) + 1 := by rw [hlr, g3]; omega
      simp only [I] at ia1 ia2 s1 s2 s3 s4
      simp [ia1, ia2, s1, s2, s3, s4, q1, q2, hlr', hw9, hw8, hw6, hz]
end Go.AM
