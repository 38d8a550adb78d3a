import Derived.Test.YtlnjnfbdcdmacaaDbn
/- drawback: sums of refunds. -/
namespace Go.AM
open Go.Proofs
set_option linter.unusedVariables false
set_option linter.unusedSimpArgs false
set_option linter.constructorNameAsVariable false
set_option maxRecDepth 20000
theorem partOf_eq (p : Paid) (n : Int) (hb : badP p = false) (h1 : 0 ≤ n) (h2 : n ≤ p.alc) : partOf p n = p.duty * n / p.alc := by
  simp [badP, win] at hb
  have q : p.duty * n / p.alc ≤ p.duty := by
    refine Int.le_trans (Int.ediv_le_ediv (by omega) (Int.mul_le_mul_of_nonneg_left h2 (by omega))) ?_
    rw [Int.mul_ediv_cancel _ (by omega)]; omega
  have q2 : p.duty * n / p.alc ≤ 128849018880000 := by omega
  have hm : (amt p.duty && amt n && amt p.alc) = true := by simp [amt]; omega
  unfold partOf propOf
  rw [hm]
  simp [show ¬ p.alc = 0 by omega, q2]
theorem partOf_mono (p : Paid) (m n : Int) (hb : badP p = false) (h1 : 0 ≤ m) (h2 : m ≤ n) (h3 : n ≤ p.alc) : 0 ≤ partOf p m ∧ partOf p m ≤ partOf p n ∧ partOf p n ≤ p.duty := by
  rw [partOf_eq p m hb h1 (by omega), partOf_eq p n hb (by omega) h3]
  simp [badP, win] at hb
  refine ⟨Int.ediv_nonneg (Int.mul_nonneg (by omega) h1) (by omega), Int.ediv_le_ediv (by omega) (Int.mul_le_mul_of_nonneg_left h2 (by omega)), ?_⟩
  refine Int.le_trans (Int.ediv_le_ediv (by omega) (Int.mul_le_mul_of_nonneg_left h3 (by omega))) ?_
  rw [Int.mul_ediv_cancel _ (by omega)]; omega
theorem pick_cons (id : Int) (c : Claim) (cs : List Claim) (x : Int) (r : List Int) : pick id (c :: cs) (x :: r) = if c.paid = id then x :: pick id cs r else pick id cs r := by
  by_cases h : c.paid = id <;> simp [pick, h]
theorem claimedL_app (a b : List Claim) (n : Int) : claimedL (a ++ b) n = claimedL a n + claimedL b n := by
  induction a with
  | nil => simp [claimedL]
  | cons c a ih => simp only [List.cons_append, claimedL, ih]; omega
/-- The refunds for one paid duty. -/
theorem runC_sum {l : List Paid} {limit id : Int} {p : Paid} (hl : ∀ p ∈ l, badP p = false) (hp : paidL l id = some p) : ∀ (cs ahead : List Claim) (r : List Int), Within l ahead → runC l limit ahead cs = .inr r →
    (pick id cs r).sum = partOf p (claimedL (ahead ++ cs) id) - partOf p (claimedL ahead id) ∧ (∀ x ∈ pick id cs r, 0 ≤ x ∧ x ≤ p.duty) ∧ (∀ c ∈ cs, 0 ≤ c.alc ∧ c.alc ≤ 10737418240000 ∧ (paidL l c.paid).isSome = true)
  | [], ahead, r, W, h => by
    simp only [runC, Sum.inr.injEq] at h
    subst h
    simp [pick]
  | c :: cs, ahead, r, W, h => by
    simp only [runC] at h
    by_cases he : errC l limit ahead c = 0
    · rw [if_pos he] at h
      cases hr : runC l limit (ahead ++ [c]) cs with
      | inl e => rw [hr] at h; simp at h
      | inr r' =>
        rw [hr] at h
        simp only [Sum.inr.injEq] at h
        subst h
        obtain ⟨p', hp', q1, q2, q3, q4, -⟩ := err0 he
        obtain ⟨s1, s2, s3⟩ := runC_sum hl hp cs (ahead ++ [c]) r' (W.snoc he) hr
        have e1 : ahead ++ [c] ++ cs = ahead ++ c :: cs := by simp
        rw [e1] at s1
        rw [pick_cons]
        by_cases hc : c.paid = id
        · have hpp : p' = p := by rw [hc, hp] at hp'; exact (Option.some.inj hp').symm
          subst hpp
          have hb := hl p' (paidL_mem hp).1
          have hw := W _ _ hp
          rw [hc] at q3
          have hf : refundC l ahead c = partOf p' (claimedL ahead id + c.alc) - partOf p' (claimedL ahead id) := by simp [refundC, hc, hp]
          have hm := partOf_mono p' (claimedL ahead id) (claimedL ahead id + c.alc) hb (by omega) (by omega) (by omega)
          rw [claimedL_snoc, if_pos hc.symm] at s1
          rw [if_pos hc]
          refine ⟨by rw [List.sum_cons, s1, hf]; omega, ?_, ?_⟩
          · intro x hx
            rcases List.mem_cons.1 hx with rfl | hx
            · rw [hf]; omega
            · exact s2 x hx
          · intro d hd
            rcases List.mem_cons.1 hd with rfl | hd
            · exact ⟨by omega, by omega, by rw [hp']; rfl⟩
            · exact s3 d hd
        · rw [claimedL_snoc, if_neg (fun e => hc e.symm)] at s1
          rw [if_neg hc]
          refine ⟨s1, s2, ?_⟩
          intro d hd
          rcases List.mem_cons.1 hd with rfl | hd
          · exact ⟨by omega, by omega, by rw [hp']; rfl⟩
          · exact s3 d hd
    · rw [if_neg he] at h; simp at h
theorem sum_ite (l : List Paid) (hs : l.Pairwise (fun a b => a.id < b.id)) (n x : Int) (h : ∃ p ∈ l, p.id = n) : (l.map fun p => if n = p.id then x else 0).sum = x := by
  induction l with
  | nil => simp at h
  | cons q l ih =>
    obtain ⟨h1, h2⟩ := List.pairwise_cons.1 hs
    rw [List.map_cons, List.sum_cons]
    by_cases hq : n = q.id
    · rw [if_pos hq]
      have : (l.map fun p => if n = p.id then x else 0).sum = 0 := by
        have : ∀ p ∈ l, (if n = p.id then x else 0) = 0 := fun p hp => by rw [if_neg]; have := h1 p hp; omega
        clear ih h hs h1 h2
        induction l with
        | nil => rfl
        | cons a l ih => rw [List.map_cons, List.sum_cons, this a (by simp), ih (fun p hp => this p (by simp [hp]))]; rfl
      omega
    · rw [if_neg hq, ih h2]
      · omega
      · obtain ⟨p, hp, he⟩ := h
        rcases List.mem_cons.1 hp with rfl | hp
        · exact absurd he.symm hq
        · exact ⟨p, hp, he⟩
theorem sum_add (l : List Paid) (f g : Paid → Int) : (l.map fun p => f p + g p).sum = (l.map f).sum + (l.map g).sum := by
  induction l with
  | nil => rfl
  | cons a l ih => simp only [List.map_cons, List.sum_cons, ih]; omega
theorem sum_pick (l : List Paid) (hs : l.Pairwise (fun a b => a.id < b.id)) : ∀ (cs : List Claim) (r : List Int), r.length = cs.length → (∀ c ∈ cs, (paidL l c.paid).isSome = true) → (l.map fun p => (pick p.id cs r).sum).sum = r.sum
  | [], r, hr, _ => by
    have : r = [] := List.eq_nil_of_length_eq_zero (by simpa using hr)
    subst this
    have : (fun p : Paid => (pick p.id [] []).sum) = fun _ => 0 := rfl
    rw [this]
    induction l with
    | nil => rfl
    | cons a l ih => rw [List.map_cons, List.sum_cons, ih (List.pairwise_cons.1 hs).2 (by simp)]; rfl
  | c :: cs, [], hr, _ => by simp at hr
  | c :: cs, x :: r, hr, h => by
    have e : (fun p : Paid => (pick p.id (c :: cs) (x :: r)).sum) = fun p => (if c.paid = p.id then x else 0) + (pick p.id cs r).sum := by
      funext p
      rw [pick_cons]
      split <;> simp
    rw [e, sum_add, sum_pick l hs cs r (by simpa using hr) (fun d hd => h d (by simp [hd])), sum_ite l hs, List.sum_cons]
    obtain ⟨p, hp⟩ := Option.isSome_iff_exists.1 (h c (by simp))
    exact ⟨p, paidL_mem hp⟩
theorem paidL_of_mem {l : List Paid} (hs : l.Pairwise (fun a b => a.id < b.id)) {p : Paid} (hp : p ∈ l) : paidL l p.id = some p := by
  unfold paidL
  induction l with
  | nil => simp at hp
  | cons q l ih =>
    obtain ⟨h1, h2⟩ := List.pairwise_cons.1 hs
    rcases List.mem_cons.1 hp with rfl | hp
    · simp
    · have := h1 p hp
      rw [List.find?_cons_of_neg (by simp; omega)]
      exact ih h2 hp
end Go.AM
