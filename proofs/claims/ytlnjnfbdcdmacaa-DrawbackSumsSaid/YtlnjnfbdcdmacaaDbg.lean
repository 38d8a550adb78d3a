import Derived.Test.YtlnjnfbdcdmacaaDbf
/- drawback: carry, Refund. -/
namespace Go.AM
open Go.Proofs
set_option linter.unusedVariables false
set_option linter.unusedSimpArgs false
set_option linter.constructorNameAsVariable false
set_option maxRecDepth 20000
theorem checkAt_cons_none (p : Paid) (l : List Paid) (i : Int) : checkAt none (p :: l) i = if badP p then some (i, 2) else checkAt (some p.id) l (i + 1) := by
  simp [checkAt]
theorem checkAt_cons_some (q : Int) (p : Paid) (l : List Paid) (i : Int) : checkAt (some q) (p :: l) i = if badP p then some (i, 2) else if p.id ≤ q then some (i, 5) else checkAt (some p.id) l (i + 1) := by
  simp [checkAt]
theorem checkAt_none : ∀ (l : List Paid) (prev : Option Int) (i : Int), checkAt prev l i = none → (∀ p ∈ l, badP p = false) ∧ l.Pairwise (fun a b => a.id < b.id) ∧ ∀ q, prev = some q → ∀ p ∈ l, q < p.id
  | [], prev, i, h => by simp
  | p :: l, prev, i, h => by
    have hh : badP p = false ∧ checkAt (some p.id) l (i + 1) = none ∧ ∀ q, prev = some q → q < p.id := by
      cases prev with
      | none =>
        rw [checkAt_cons_none] at h
        by_cases hb : badP p = true
        · simp [hb] at h
        · rw [if_neg hb] at h; exact ⟨by simpa using hb, h, by simp⟩
      | some q =>
        rw [checkAt_cons_some] at h
        by_cases hb : badP p = true
        · simp [hb] at h
        · rw [if_neg hb] at h
          by_cases hp : p.id ≤ q
          · simp [hp] at h
          · rw [if_neg hp] at h; exact ⟨by simpa using hb, h, by rintro _ ⟨⟩; omega⟩
    obtain ⟨hb, h0, hq⟩ := hh
    obtain ⟨h1, h2, h3⟩ := checkAt_none l (some p.id) (i + 1) h0
    have h4 := h3 p.id rfl
    refine ⟨by simpa using ⟨hb, h1⟩, by simpa using ⟨h4, h2⟩, ?_⟩
    rintro q hq' r hr
    have hq := hq q hq'
    rcases List.mem_cons.1 hr with rfl | hr
    · exact hq
    · have := h4 r hr; omega
theorem checkP_ok {l : List Paid} (h : (checkP l).2 = 0) : l.length ≤ 64 ∧ (∀ p ∈ l, badP p = false) ∧ l.Pairwise (fun a b => a.id < b.id) := by
  unfold checkP at h
  split at h
  · simp at h
  · rename_i hl
    have hn : checkAt none l 0 = none := by
      have key : ∀ (l : List Paid) (prev : Option Int) (i : Int) (x : Int × Int), checkAt prev l i = some x → x.2 ≠ 0 := by
        intro l
        induction l with
        | nil => intro prev i x hx; simp [checkAt] at hx
        | cons p l ih =>
          intro prev i x hx
          by_cases hb : badP p = true
          · cases prev <;> simp [checkAt_cons_none, checkAt_cons_some, hb] at hx <;> subst hx <;> simp
          · cases prev with
            | none => rw [checkAt_cons_none, if_neg hb] at hx; exact ih _ _ _ hx
            | some q =>
              rw [checkAt_cons_some, if_neg hb] at hx
              by_cases hp : p.id ≤ q
              · rw [if_pos hp] at hx; simp at hx; subst hx; simp
              · rw [if_neg hp] at hx; exact ih _ _ _ hx
      cases hc : checkAt none l 0 with
      | none => rfl
      | some x => rw [hc] at h; exact absurd h (key _ _ _ _ hc)
    obtain ⟨h1, h2, -⟩ := checkAt_none l none 0 hn
    exact ⟨by omega, h1, h2⟩
theorem paidL_snoc (l : List Paid) (p : Paid) (n : Int) (hd : ∀ q ∈ l, q.id < p.id) : paidL (l ++ [p]) n = if n = p.id then some p else paidL l n := by
  unfold paidL
  rw [List.find?_append]
  by_cases hn : n = p.id
  · subst hn
    have : l.find? (fun q => decide (q.id = p.id)) = none := by
      rw [List.find?_eq_none]
      intro q hq
      have := hd q hq
      simp; omega
    simp [this]
  · have : ([p].find? fun q => decide (q.id = n)) = none := by simp; omega
    rw [this, if_neg hn]
    simp
section
variable {β : Type} {P : Program} {T : Tab} {D : DTab} {N : Nat} {K : AV → Hp → Option β} {x1 : AV → AV → Hp → Option β} {limit : Int} {l : List Paid} {b : Bool} {v1 : AV}
theorem carry_L7 (hl : l.length < 1000) (hs : l.Pairwise (fun a b => a.id < b.id)) : ∀ (n : Nat) (pre post : List Paid) (kp : List (Value × AV)) (g : List AObj), l = pre ++ post → post.length < n → PaidAt kp (paidL pre) →
    ∃ kp' g', f_drawback_carry_L7 Try.prog T D N x1 n v1 (.ptr 2 0 0 1) (.lst 5 b (l.map encP)) (I l.length) (I pre.length) (fileH kp [] 0 limit g) = x1 v1 (.ptr 2 0 0 1) (fileH kp' [] 0 limit g') ∧ PaidAt kp' (paidL l) := by
  intro n
  induction n with
  | zero => intro pre post kp g h1 h2; omega
  | succ n ih =>
    intro pre post kp g hl2 hn A
    cases post with
    | nil =>
      have hcl' : l = pre := by simpa using hl2
      subst hcl'
      refine ⟨kp, g, ?_, A⟩
      show f_drawback_carry_b7 Try.prog T D N (f_drawback_carry_L7 Try.prog T D N x1 n) x1 _ _ _ _ _ _ = _
      simp [f_drawback_carry_b7]
    | cons p post =>
      have hi : pre.length < l.length := by rw [hl2]; simp
      have hci : l[pre.length]? = some p := by rw [hl2]; simp
      have hlt : ((pre.length : Int) < (l.length : Int)) := by omega
      have hw : IntKind.i64.wrap ((pre.length : Int) + 1) = (((pre ++ [p]).length : Nat) : Int) := by rw [wrap64 (by omega) (by omega)]; simp
      obtain ⟨kp', u1, u2, u3⟩ := updateKV_int (P := Try.prog) (kt := 3) un_3 p.id (.agg (encP p)) A.keys
      have hlt2 : ∀ q ∈ pre, q.id < p.id := by
        rw [hl2] at hs
        intro q hq
        exact (List.pairwise_append.1 hs).2.2 q hq p (by simp)
      have A' : PaidAt kp' (paidL (pre ++ [p])) := ⟨u2, fun m => by
        rw [u3, paidL_snoc _ _ _ hlt2, A.get]
        split <;> rfl⟩
      obtain ⟨kp2, g2, h1, h2⟩ := ih (pre ++ [p]) post kp' (g ++ [.arr 5 [encP p] true false]) (by simpa using hl2) (by simpa using hn) A'
      refine ⟨kp2, g2, ?_, h2⟩
      rw [← h1]
      have hU := fun (h : Hp) (hid : h[0]? = some (.map kp)) => mupE_upd (P := Try.prog) (kt := 3) (v := .agg (encP p)) (n := p.id) un_3 hid u1
      simp only [encP] at hU
      show f_drawback_carry_b7 Try.prog T D N (f_drawback_carry_L7 Try.prog T D N x1 n) x1 _ _ _ _ _ _ = _
      simp only [f_drawback_carry_b7]
      simp [hlt, hci, encP, hw]
      rw [hU _ (by simp)]
      simp
end
/-- Where carry stands behind everything. -/
def carryS (l : List Paid) (claims : List Claim) (limit : Int) : Sum (Int × Int) (List Int) :=
  if (checkP l).2 ≠ 0 then .inl (-1, 1) else if win limit 0 100000 = false then .inl (-1, 2) else if 64 < claims.length then .inl (-1, 8) else
  match runC l limit [] claims with
  | .inl (j, e) => .inl ((j : Int), e)
  | .inr r => .inr r
theorem carry_val (l : List Paid) (claims : List Claim) (b1 b2 : Bool) (limit : Int) :
    match carryS l claims limit with
    | .inl (j, e) => e ≠ 0 ∧ ∃ H, F_drawback_carry [.lst 5 b1 (l.map encP), .lst 3 b2 (claims.map encC), I limit] [] = some (.tup [.s (.pointer none), nilS, I j, I e], H)
    | .inr r => ∃ v kp kc g, F_drawback_carry [.lst 5 b1 (l.map encP), .lst 3 b2 (claims.map encC), I limit] [] = some (.tup [.ptr 2 0 0 1, v, I (-1), I 0], fileH kp kc (lastL claims) limit g) ∧ OutG g v r ∧ PaidAt kp (paidL l) ∧ ClaimedAt kc (claimedL claims) ∧ (checkP l).2 = 0 ∧ win limit 0 100000 = true := by
  rw [F_drawback_carry_raw]
  unfold carryS
  by_cases h1 : (checkP l).2 = 0
  · rw [if_neg (by simpa using h1)]
    by_cases h2 : win limit 0 100000 = true
    · rw [if_neg (by simp [h2])]
      by_cases h3 : 64 < claims.length
      · rw [if_pos h3]
        have h3' : (64 : Int) < (claims.length : Int) := by omega
        refine ⟨by simp, [], ?_⟩
        simp [f_drawback_carry, F_drawback_Check_val, h1, F_drawback_within_val, h2, h3, h3']
      · rw [if_neg h3]
        have h3' : ¬ (64 : Int) < (claims.length : Int) := by omega
        obtain ⟨c1, c2, c3⟩ := checkP_ok h1
        obtain ⟨kp, g, e1, A⟩ := carry_L7 (T := t_drawback_carry) (D := d_drawback_carry) (N := NN) (x1 := fun w119_1 w119_12 h => f_drawback_carry_j1 Try.prog t_drawback_carry d_drawback_carry NN (fun v h => some (v, h)) w119_1 w119_12 h) (limit := limit) (l := l) (b := b1) (v1 := .lst 3 b2 (claims.map encC)) (by omega) c3 NN [] l [] [] rfl (by have := NN_ge; omega) ⟨fun x hx => by simp at hx, fun n => rfl⟩
        have e0 : f_drawback_carry Try.prog t_drawback_carry d_drawback_carry NN (fun v h => some (v, h)) (.lst 5 b1 (l.map encP)) (.lst 3 b2 (claims.map encC)) (I limit) [] = f_drawback_carry_j1 Try.prog t_drawback_carry d_drawback_carry NN (fun v h => some (v, h)) (.lst 3 b2 (claims.map encC)) (.ptr 2 0 0 1) (fileH kp [] 0 limit g) := by
          rw [← e1]
          simp [f_drawback_carry, F_drawback_Check_val, h1, F_drawback_within_val, h2, h3, h3', buildK, fillA]
        rw [e0]
        have e2 := carry_L3 (T := t_drawback_carry) (D := d_drawback_carry) (N := NN) (x3 := fun w101_12 w101_16 h => f_drawback_carry_j2 Try.prog t_drawback_carry d_drawback_carry NN (fun v h => some (v, h)) w101_12 w101_16 h) (xr := fun w102_6 w102_7 w102_8 w102_9 h => some ((.tup [w102_6, w102_7, w102_8, w102_9]), h))
          (limit := limit) (l := l) (claims := claims) (b := b2) (fk := g.length) (fun g args hh k => rfl) d_drawback_carry_34 (by have := NN_ge; omega) A c2 (by omega) NN [] claims [] nilS (g ++ [.arr 2 faultRows true false]) [] rfl (by have := NN_ge; omega) rfl (fun n p hp => by
            have := okP_bd (c2 p (paidL_mem hp).1); simp [claimedL]; omega) ⟨fun x hx => by simp at hx, fun n => .inr ⟨rfl, rfl⟩⟩ (.inl ⟨rfl, rfl⟩) (by simp)
        have e3 : f_drawback_carry_j1 Try.prog t_drawback_carry d_drawback_carry NN (fun v h => some (v, h)) (.lst 3 b2 (claims.map encC)) (.ptr 2 0 0 1) (fileH kp [] 0 limit g) = f_drawback_carry_L3 Try.prog t_drawback_carry d_drawback_carry NN (fun w101_12 w101_16 h => f_drawback_carry_j2 Try.prog t_drawback_carry d_drawback_carry NN (fun v h => some (v, h)) w101_12 w101_16 h) (fun w102_6 w102_7 w102_8 w102_9 h => some ((.tup [w102_6, w102_7, w102_8, w102_9]), h)) NN (.ptr 2 0 0 1) (.sl 2 (g.length + 3) 0 6 6 true) nilS (.lst 3 b2 (claims.map encC)) (I claims.length) (I 0) (fileH kp [] 0 limit (g ++ [.arr 2 faultRows true false])) := by
          simp [f_drawback_carry_j1, F_faults]
        rw [e3]
        revert e2
        cases runC l limit [] claims with
        | inl je =>
          rintro ⟨q1, H, q2⟩
          exact ⟨q1, H, q2⟩
        | inr r =>
          rintro ⟨v', g', kc', q1, q2, q3⟩
          exact ⟨v', kp, kc', g', q1, by simpa using q2, A, q3, h1, h2⟩
    · have h2' : win limit 0 100000 = false := by simpa using h2
      rw [if_pos h2']
      refine ⟨by simp, [], ?_⟩
      simp [f_drawback_carry, F_drawback_Check_val, h1, F_drawback_within_val, h2']
  · rw [if_pos h1]
    refine ⟨by simp, [], ?_⟩
    simp [f_drawback_carry, F_drawback_Check_val, h1]
/-- Refund: the refunds, the place of the claim that is refused, the error. -/
def refundS (l : List Paid) (claims : List Claim) (limit : Int) : List Int × Int × Int := match carryS l claims limit with
  | .inl (j, e) => ([], j, e)
  | .inr r => (r, -1, 0)
theorem OutG.cvt {g : List AObj} {v : AV} {r : List Int} (O : OutG g v r) (st : Bool) (a b c : AObj) : nrm (.l 1) ((Go.AM.cvt st (a :: b :: c :: g) v).getD .u) = SL 1 encI (r.isEmpty) r ∧ (Go.AM.cvt st (a :: b :: c :: g) v).isSome = true := by
  rcases O with ⟨rfl, rfl⟩ | ⟨h1, k, rfl, h2⟩
  · exact ⟨rfl, rfl⟩
  · have hok : okE st (r.map encI) = true := okE_map (by intro x; cases st <;> rfl)
    have := cvt_whole (st := st) (h := a :: b :: c :: g) (sz := 1) (id := k + 3) (n := r.length) (fr := r.length) (full := false) (nl := false) (es := r.map encI) (by simpa using h2) (by simp) (by simp) hok
    have he : r.isEmpty = false := by simpa using h1
    rw [this, he]
    exact ⟨rfl, rfl⟩
theorem F_drawback_Refund_val (l : List Paid) (claims : List Claim) (b1 b2 : Bool) (limit : Int) (h : Hp) : F_drawback_Refund [.lst 5 b1 (l.map encP), .lst 3 b2 (claims.map encC), I limit] h =
    some (.tup [SL 1 encI (refundS l claims limit).1.isEmpty (refundS l claims limit).1, I (refundS l claims limit).2.1, I (refundS l claims limit).2.2], h) := by
  have hc := carry_val l claims b1 b2 limit
  unfold refundS
  revert hc
  cases hS : carryS l claims limit with
  | inl je =>
    rintro ⟨h1, H, h2⟩
    refine (F_drawback_Refund_run (v := .tup [nilS, I je.1, I je.2]) rfl ?_ h).trans rfl
    simp [f_drawback_Refund, h2]
  | inr r =>
    rintro ⟨v, kp, kc, g, h1, O, -⟩
    obtain ⟨q1, q2⟩ := O.cvt false (.map kp) (.map kc) (fileO (lastL claims) limit)
    obtain ⟨w, hw⟩ := Option.isSome_iff_exists.1 q2
    rw [hw] at q1
    refine (F_drawback_Refund_run (v := .tup [w, I (-1), I 0]) rfl ?_ h).trans ?_
    · simp [f_drawback_Refund, h1, hw]
    · simp only [Option.getD_some] at q1
      show some (AV.tup [nrm (.l 1) w, I (-1), I 0], h) = _
      rw [q1]
end Go.AM
