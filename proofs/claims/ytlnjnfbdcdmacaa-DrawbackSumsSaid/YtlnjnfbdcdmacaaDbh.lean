import Derived.Test.YtlnjnfbdcdmacaaDbg
/- drawback: Left, Total, Overdue; Equal. -/
namespace Go.AM
open Go.Proofs
set_option linter.unusedVariables false
set_option linter.unusedSimpArgs false
set_option linter.constructorNameAsVariable false
set_option maxRecDepth 20000
theorem carryS_inr {l : List Paid} {claims : List Claim} {limit : Int} {r : List Int} (h : carryS l claims limit = .inr r) : (checkP l).2 = 0 ∧ win limit 0 100000 = true ∧ claims.length ≤ 64 ∧ runC l limit [] claims = .inr r := by
  unfold carryS at h
  split at h
  · simp at h
  · rename_i h1
    split at h
    · simp at h
    · rename_i h2
      split at h
      · simp at h
      · rename_i h3
        refine ⟨by simpa using h1, by simpa using h2, by omega, ?_⟩
        revert h
        cases runC l limit [] claims with
        | inl x => simp
        | inr x => intro h; simpa using h
theorem runC_inr {l : List Paid} {limit : Int} (hl : ∀ p ∈ l, badP p = false) : ∀ (cs ahead : List Claim) (r : List Int), Within l ahead → runC l limit ahead cs = .inr r → Within l (ahead ++ cs) ∧ r.length = cs.length ∧ ∀ x ∈ r, -128849018880000 ≤ x ∧ x ≤ 128849018880000
  | [], ahead, r, W, h => by
    simp only [runC, Sum.inr.injEq] at h
    subst h
    simpa using W
  | c :: cs, ahead, r, W, h => by
    simp only [runC] at h
    by_cases he : errC l limit ahead c = 0
    · rw [if_pos he] at h
      obtain ⟨p, hp, q1, q2, q3, -⟩ := err0 he
      have hbp := okP_bd (hl p (paidL_mem hp).1)
      have hwp := W _ _ hp
      have b1 := partOf_bd p (claimedL ahead c.paid + c.alc) (by omega) (by omega) (by omega)
      have b2 := partOf_bd p (claimedL ahead c.paid) (by omega) (by omega) (by omega)
      cases hr : runC l limit (ahead ++ [c]) cs with
      | inl e => rw [hr] at h; simp at h
      | inr r' =>
        rw [hr] at h
        simp only [Sum.inr.injEq] at h
        subst h
        obtain ⟨h1, h2, h3⟩ := runC_inr hl cs (ahead ++ [c]) r' (W.snoc he) hr
        refine ⟨by simpa using h1, by simp [h2], ?_⟩
        intro x hx
        rcases List.mem_cons.1 hx with rfl | hx
        · simp only [refundC, hp]; omega
        · exact h3 x hx
    · rw [if_neg he] at h; simp at h
theorem within_nil {l : List Paid} (hl : ∀ p ∈ l, badP p = false) : Within l [] := fun n p hp => by
  have := okP_bd (hl p (paidL_mem hp).1); simp [claimedL]; omega
theorem carryS_within {l : List Paid} {claims : List Claim} {limit : Int} {r : List Int} (h : carryS l claims limit = .inr r) : (∀ p ∈ l, badP p = false) ∧ Within l claims ∧ r.length = claims.length ∧ r.length ≤ 64 ∧ ∀ x ∈ r, -128849018880000 ≤ x ∧ x ≤ 128849018880000 := by
  obtain ⟨h1, h2, h3, h4⟩ := carryS_inr h
  obtain ⟨c1, c2, c3⟩ := checkP_ok h1
  obtain ⟨q1, q2, q3⟩ := runC_inr c2 claims [] r (within_nil c2) h4
  exact ⟨c2, by simpa using q1, q2, by omega, q3⟩
section
variable {β : Type} {P : Program} {T : Tab} {D : DTab} {N : Nat} {K : AV → Hp → Option β} {x0 : Hp → Option β} {xr : AV → Hp → Option β}
theorem equal_L2 (xs ys : List Int) (b1 b2 : Bool) (hl : xs.length = ys.length) (hb : xs.length < 1000000) (h : Hp) : ∀ (n i : Nat), i ≤ xs.length → xs.length - i < n →
    f_slices_Equal_int_L2 Try.prog T D N x0 xr n (.lst 1 b1 (xs.map encI)) (.lst 1 b2 (ys.map encI)) (I xs.length) (I i) h = if xs.drop i = ys.drop i then x0 h else xr (B false) h := by
  intro n
  induction n with
  | zero => intro i _ h1; omega
  | succ n ih =>
    intro i hi hn
    show f_slices_Equal_int_b2 Try.prog T D N (f_slices_Equal_int_L2 Try.prog T D N x0 xr n) x0 xr _ _ _ _ h = _
    by_cases hlt : i < xs.length
    · have hlt' : ((i : Int) < (xs.length : Int)) := by omega
      have e1 : xs[i]? = some xs[i] := List.getElem?_eq_getElem hlt
      have e2 : ys[i]? = some (ys[i]'(by omega)) := List.getElem?_eq_getElem (by omega)
      have hw : IntKind.i64.wrap ((i : Int) + 1) = ((i + 1 : Nat) : Int) := by rw [wrap64 (by omega) (by omega)]; omega
      have d1 : xs.drop i = xs[i] :: xs.drop (i + 1) := List.drop_eq_getElem_cons hlt
      have d2 : ys.drop i = ys[i]'(by omega) :: ys.drop (i + 1) := List.drop_eq_getElem_cons (by omega)
      have dd : (xs.drop i = ys.drop i) = (xs[i] = ys[i]'(by omega) ∧ xs.drop (i + 1) = ys.drop (i + 1)) := by rw [d1, d2]; simp only [List.cons.injEq]
      have := ih (i + 1) (by omega) (by omega)
      simp only [dd]
      generalize xs[i] = x at *
      generalize ys[i] = y at *
      by_cases he : x = y
      · simp [f_slices_Equal_int_b2, hlt', e1, e2, encI, hw, he]
        simpa [encI] using this
      · simp [f_slices_Equal_int_b2, hlt', e1, e2, encI, hw, he]
    · have hlt' : ¬ ((i : Int) < (xs.length : Int)) := by omega
      have : xs.drop i = ys.drop i := by rw [List.drop_eq_nil_of_le (by omega), List.drop_eq_nil_of_le (by omega)]
      simp [f_slices_Equal_int_b2, hlt', this]
end
theorem F_slices_Equal_int_val (xs ys : List Int) (b1 b2 : Bool) (hb : xs.length < 1000000) (hy : ys.length < 1000000) (h : Hp) : F_slices_Equal_int [.lst 1 b1 (xs.map encI), .lst 1 b2 (ys.map encI)] h = some (B (decide (xs = ys)), h) := by
  refine F_slices_Equal_int_run rfl ?_ h
  by_cases hl : xs.length = ys.length
  · have := equal_L2 (T := t_slices_Equal_int) (D := d_slices_Equal_int) (N := NN) (x0 := fun h => f_slices_Equal_int_j1 Try.prog t_slices_Equal_int d_slices_Equal_int NN (fun v g => cvt false g v) h) (xr := fun w13_4 h => cvt false h w13_4) xs ys b1 b2 hl hb [] NN 0 (by omega) (by have := NN_ge; omega)
    have e : f_slices_Equal_int Try.prog t_slices_Equal_int d_slices_Equal_int NN (fun v g => cvt false g v) (nrm (.l 1) (.lst 1 b1 (xs.map encI))) (nrm (.l 1) (.lst 1 b2 (ys.map encI))) [] = f_slices_Equal_int_L2 Try.prog t_slices_Equal_int d_slices_Equal_int NN (fun h => f_slices_Equal_int_j1 Try.prog t_slices_Equal_int d_slices_Equal_int NN (fun v g => cvt false g v) h) (fun w13_4 h => cvt false h w13_4) NN (.lst 1 b1 (xs.map encI)) (.lst 1 b2 (ys.map encI)) (I xs.length) (I 0) [] := by
      simp [f_slices_Equal_int, hl]
    refine e.trans (this.trans ?_)
    by_cases he : xs = ys <;> simp [he, f_slices_Equal_int_j1]
  · have hne : xs ≠ ys := by rintro rfl; exact hl rfl
    have hl' : ¬ ((xs.length : Int) = (ys.length : Int)) := by omega
    simp [f_slices_Equal_int, hl', hne, hl]
/-- Left: the alcohol, the duty, the error. -/
def leftS (l : List Paid) (claims : List Claim) (limit id : Int) : Int × Int × Int := match carryS l claims limit with
  | .inl (j, e) => (0, 0, e)
  | .inr r => match paidL l id with
    | some p => (p.alc - claimedL claims id, p.duty - partOf p (claimedL claims id), 0)
    | none => (0, 0, 7)
theorem F_drawback_Left_val (l : List Paid) (claims : List Claim) (b1 b2 : Bool) (limit id : Int) (h : Hp) : F_drawback_Left [.lst 5 b1 (l.map encP), .lst 3 b2 (claims.map encC), I limit, I id] h =
    some (.tup [I (leftS l claims limit id).1, I (leftS l claims limit id).2.1, I (leftS l claims limit id).2.2], h) := by
  have hc := carry_val l claims b1 b2 limit
  unfold leftS
  revert hc
  cases hS : carryS l claims limit with
  | inl je =>
    rintro ⟨h1, H, h2⟩
    refine (F_drawback_Left_run rfl ?_ h).trans rfl
    simp [f_drawback_Left, h2, h1]
  | inr r =>
    rintro ⟨v, kp, kc, g, h1, O, A, C, -⟩
    obtain ⟨c2, W, -⟩ := carryS_within hS
    have L := fun (h : Hp) (hid : h[0]? = some (.map kp)) (k : Go.AM.K AV) => look_paid A hid true id k
    have L2 := fun (h : Hp) (hid : h[1]? = some (.map kc)) (k : Go.AM.K AV) => look_claimed C hid id k
    cases hp : paidL l id with
    | none =>
      refine (F_drawback_Left_run rfl ?_ h).trans rfl
      simp [f_drawback_Left, h1]
      rw [L _ (by simp)]
      simp [hp, boxE]
    | some p =>
      have hb := okP_bd (c2 p (paidL_mem hp).1)
      have hw := W _ _ hp
      have q2 := partOf_bd p (claimedL claims id) (by omega) (by omega) (by omega)
      have w1 : IntKind.i64.wrap (p.alc - claimedL claims id) = p.alc - claimedL claims id := wrap64 (by omega) (by omega)
      have w2 : IntKind.i64.wrap (p.duty - partOf p (claimedL claims id)) = p.duty - partOf p (claimedL claims id) := wrap64 (by omega) (by omega)
      have gp := fun n h base => G_drawback_part_val p n h base
      simp only [encP] at gp
      refine (F_drawback_Left_run rfl ?_ h).trans rfl
      simp [f_drawback_Left, h1]
      rw [L _ (by simp)]
      simp [hp, boxE, encP]
      rw [L2 _ (by simp)]
      simp [effD_y, disjAll, disj2, wrOf, idsOf, callE_F, gp, w1, w2]
/-- Total: the sum, the error. -/
def totalS (l : List Paid) (claims : List Claim) (limit : Int) : Int × Int := match carryS l claims limit with
  | .inl (j, e) => (0, e)
  | .inr r => (r.sum, 0)
theorem sum_bd {B : Int} (hB : 0 ≤ B) : ∀ (r : List Int), (∀ x ∈ r, -B ≤ x ∧ x ≤ B) → -(B * r.length) ≤ r.sum ∧ r.sum ≤ B * r.length
  | [], _ => by simp
  | x :: r, h => by
    have h1 := h x (by simp)
    have h2 := sum_bd hB r (fun y hy => h y (by simp [hy]))
    have e : B * ((x :: r).length : Int) = B * r.length + B := by simp [Int.mul_add]
    rw [e, List.sum_cons]
    omega
section
variable {β : Type} {P : Program} {T : Tab} {D : DTab} {N : Nat} {K : AV → Hp → Option β} {x0 : AV → AV → Hp → Option β}
theorem total_L2 (r : List Int) (v e : AV) (g : Hp) (a b c : AObj) (O : OutG g v r) (hn : r.length ≤ 64) (hr : ∀ x ∈ r, -128849018880000 ≤ x ∧ x ≤ 128849018880000) : ∀ (n : Nat) (pre post : List Int), r = pre ++ post → post.length < n →
    f_drawback_Total_L2 Try.prog T D N x0 n e (I pre.sum) v (I r.length) (I pre.length) (a :: b :: c :: g) = x0 e (I r.sum) (a :: b :: c :: g) := by
  intro n
  induction n with
  | zero => intro pre post _ h; omega
  | succ n ih =>
    intro pre post hp hn'
    show f_drawback_Total_b2 Try.prog T D N (f_drawback_Total_L2 Try.prog T D N x0 n) x0 _ _ _ _ _ _ = _
    cases post with
    | nil =>
      have : r = pre := by simpa using hp
      subst this
      simp [f_drawback_Total_b2]
    | cons x post =>
      have hi : pre.length < r.length := by rw [hp]; simp
      have hx : r[pre.length]? = some x := by rw [hp]; simp
      have hlt : ((pre.length : Int) < (r.length : Int)) := by omega
      have hw : IntKind.i64.wrap ((pre.length : Int) + 1) = (((pre ++ [x]).length : Nat) : Int) := by rw [wrap64 (by omega) (by omega)]; simp
      have hxb := hr x (by rw [hp]; simp)
      have hpb := sum_bd (B := 128849018880000) (by omega) pre (fun y hy => hr y (by rw [hp]; simp [hy]))
      have hs : IntKind.i64.wrap (pre.sum + x) = (pre ++ [x]).sum := by rw [wrap64 (by omega) (by omega)]; simp
      have := ih (pre ++ [x]) post (by simpa using hp) (by simpa using hn')
      rcases O with ⟨h1, _⟩ | ⟨h1, k, rfl, h2⟩
      · rw [h1] at hi; simp at hi
      · rw [← this]
        have hia : ∀ (k' : Go.AM.K β), iaK 1 (.sl 1 (k + 3) 0 r.length r.length false) (I pre.length) k' = k' (.ptr (k + 3) pre.length 0 r.length) := fun k' => by
          rw [iaK_sl (by omega) (by omega)]; simp
        simp [f_drawback_Total_b2, hlt, hia, h2, hx, encI, hw, hs]
end
theorem F_drawback_Total_val (l : List Paid) (claims : List Claim) (b1 b2 : Bool) (limit : Int) (h : Hp) : F_drawback_Total [.lst 5 b1 (l.map encP), .lst 3 b2 (claims.map encC), I limit] h =
    some (.tup [I (totalS l claims limit).1, I (totalS l claims limit).2], h) := by
  have hc := carry_val l claims b1 b2 limit
  unfold totalS
  revert hc
  cases hS : carryS l claims limit with
  | inl je =>
    rintro ⟨h1, H, h2⟩
    refine (F_drawback_Total_run (v := .tup [I 0, I je.2]) rfl ?_ h).trans rfl
    obtain ⟨m, hm⟩ : ∃ m, NN = m + 1 := ⟨NN - 1, by have := NN_ge; omega⟩
    rw [hm]
    simp [f_drawback_Total, h2, f_drawback_Total_L2, f_drawback_Total_b2, f_drawback_Total_j1]
  | inr r =>
    rintro ⟨v, kp, kc, g, h1, O, A, C, -⟩
    obtain ⟨c2, W, hr1, hr2, hr3⟩ := carryS_within hS
    have hlen : ∀ (k : Go.AM.K AV), lenK v k = k (I r.length) := fun k => by
      rcases O with ⟨rfl, rfl⟩ | ⟨q1, k, rfl, q2⟩ <;> simp
    refine (F_drawback_Total_run (v := .tup [I r.sum, I 0]) rfl ?_ h).trans rfl
    have := total_L2 (T := t_drawback_Total) (D := d_drawback_Total) (N := NN) (x0 := fun w13_11 w13_12 h => f_drawback_Total_j1 Try.prog t_drawback_Total d_drawback_Total NN (fun v g => cvt false g v) w13_11 w13_12 h) r v (I 0) g (.map kp) (.map kc) (fileO (lastL claims) limit) O hr2 hr3 NN [] r rfl (by have := NN_ge; omega)
    simp [f_drawback_Total, h1, hlen]
    refine Eq.trans ?_ (this.trans ?_)
    · simp
    · simp [f_drawback_Total_j1]
end Go.AM
