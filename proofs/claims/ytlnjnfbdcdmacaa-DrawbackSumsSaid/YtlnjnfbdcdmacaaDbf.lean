import Derived.Test.YtlnjnfbdcdmacaaDbe
/- drawback: the loop over the claims. -/
namespace Go.AM
open Go.Proofs
set_option linter.unusedVariables false
set_option linter.unusedSimpArgs false
set_option linter.constructorNameAsVariable false
set_option maxRecDepth 20000
def claimedL : List Claim → Int → Int
  | [], _ => 0
  | c :: cs, n => (if n = c.paid then c.alc else 0) + claimedL cs n
theorem claimedL_snoc (cs : List Claim) (c : Claim) (n : Int) : claimedL (cs ++ [c]) n = if n = c.paid then claimedL cs n + c.alc else claimedL cs n := by
  induction cs with
  | nil => simp [claimedL]
  | cons d cs ih =>
    simp only [List.cons_append, claimedL, ih]
    split <;> split <;> omega
def paidL (l : List Paid) (n : Int) : Option Paid := l.find? fun p => decide (p.id = n)
def lastL (cs : List Claim) : Int := match cs.getLast? with | some c => c.day | none => 0
theorem lastL_snoc (cs : List Claim) (c : Claim) : lastL (cs ++ [c]) = c.day := by simp [lastL]
def errC (l : List Paid) (limit : Int) (ahead : List Claim) (c : Claim) : Int := stepErr (paidL l) (claimedL ahead) (lastL ahead) limit c
def refundC (l : List Paid) (ahead : List Claim) (c : Claim) : Int := match paidL l c.paid with
  | some p => partOf p (claimedL ahead c.paid + c.alc) - partOf p (claimedL ahead c.paid)
  | none => 0
/-- What becomes of claims: the refunds; or the place of the first one that is refused, and its error. -/
def runC (l : List Paid) (limit : Int) : List Claim → List Claim → Sum (Nat × Int) (List Int)
  | _, [] => .inr []
  | ahead, c :: cs => if errC l limit ahead c = 0 then (match runC l limit (ahead ++ [c]) cs with | .inr r => .inr (refundC l ahead c :: r) | .inl e => .inl e) else .inl (ahead.length, errC l limit ahead c)
theorem paidL_mem {l : List Paid} {n : Int} {p : Paid} (h : paidL l n = some p) : p ∈ l ∧ p.id = n := ⟨List.mem_of_find?_eq_some h, by simpa using List.find?_some h⟩
/-- What is claimed lies within what there is. -/
def Within (l : List Paid) (ahead : List Claim) : Prop := ∀ n p, paidL l n = some p → 0 ≤ claimedL ahead n ∧ claimedL ahead n ≤ p.alc
theorem okP_bd {p : Paid} (h : badP p = false) : (0 ≤ p.day ∧ p.day ≤ 100000) ∧ (1 ≤ p.alc ∧ p.alc ≤ 10737418240000) ∧ (0 ≤ p.duty ∧ p.duty ≤ 1099511627776) := by
  simp [badP, win] at h; omega
theorem err0 {l : List Paid} {limit : Int} {ahead : List Claim} {c : Claim} (h : errC l limit ahead c = 0) : ∃ p, paidL l c.paid = some p ∧ (0 ≤ c.day ∧ c.day ≤ 100000) ∧ (1 ≤ c.alc ∧ c.alc ≤ 10737418240000) ∧ claimedL ahead c.paid + c.alc ≤ p.alc ∧ lastL ahead ≤ c.day ∧ p.day ≤ c.day ∧ c.day - p.day ≤ limit := by
  unfold errC stepErr at h
  split at h
  · omega
  · rename_i h1
    have hb : 0 ≤ c.day ∧ c.day ≤ 100000 ∧ 1 ≤ c.alc ∧ c.alc ≤ 10737418240000 := by simp [bad1, win] at h1; omega
    split at h
    · omega
    · split at h
      · omega
      · rename_i p hp
        split at h
        · omega
        · split at h
          · omega
          · split at h
            · omega
            · exact ⟨p, hp, ⟨hb.1, hb.2.1⟩, ⟨hb.2.2.1, hb.2.2.2⟩, by omega, by omega, by omega, by omega⟩
theorem Within.snoc {l : List Paid} {limit : Int} {ahead : List Claim} {c : Claim} (W : Within l ahead) (h : errC l limit ahead c = 0) : Within l (ahead ++ [c]) := by
  intro n p hp
  rw [claimedL_snoc]
  have := W n p hp
  split
  · rename_i e
    subst e
    obtain ⟨q, hq, h1, h2, h3, -⟩ := err0 h
    rw [hp] at hq
    injection hq with hq
    subst hq
    omega
  · exact this
section
variable {β : Type} {P : Program} {T : Tab} {D : DTab} {N : Nat} {K : AV → Hp → Option β} {x3 : AV → AV → Hp → Option β} {xr : AV → AV → AV → AV → Hp → Option β} {kp : List (Value × AV)} {limit : Int} {l : List Paid} {claims : List Claim} {b : Bool} {fk : Nat}
theorem carry_L3 (hT : ∀ g args (hh : Hp) (k : AV → Hp → Option β), callK (T g) args hh k = callK (t_drawback_carry g) args hh k) (hD : D 34 = some G_drawback_part) (hN : 10 ≤ N) (A : PaidAt kp (paidL l)) (hl : ∀ p ∈ l, badP p = false) (hc : claims.length < 1000) :
    ∀ (n : Nat) (ahead cs : List Claim) (outs : List Int) (v : AV) (g : List AObj) (kc : List (Value × AV)), claims = ahead ++ cs → cs.length < n → outs.length = ahead.length → Within l ahead → ClaimedAt kc (claimedL ahead) → OutG g v outs → g[fk]? = some (.arr 2 faultRows true false) →
      match runC l limit ahead cs with
      | .inl (j, e) => e ≠ 0 ∧ ∃ H, f_drawback_carry_L3 Try.prog T D N x3 xr n (.ptr 2 0 0 1) (.sl 2 (fk + 3) 0 6 6 true) v (.lst 3 b (claims.map encC)) (I claims.length) (I ahead.length) (fileH kp kc (lastL ahead) limit g) = xr (.s (.pointer none)) nilS (I j) (I e) H
      | .inr r => ∃ v' g' kc', f_drawback_carry_L3 Try.prog T D N x3 xr n (.ptr 2 0 0 1) (.sl 2 (fk + 3) 0 6 6 true) v (.lst 3 b (claims.map encC)) (I claims.length) (I ahead.length) (fileH kp kc (lastL ahead) limit g) = x3 (.ptr 2 0 0 1) v' (fileH kp kc' (lastL claims) limit g') ∧ OutG g' v' (outs ++ r) ∧ ClaimedAt kc' (claimedL claims) := by
  intro n
  induction n with
  | zero => intro ahead cs outs v g kc h1 h2; omega
  | succ n ih =>
    intro ahead cs outs v g kc hcl hn ho W C O hf
    cases cs with
    | nil =>
      simp only [runC]
      have hcl' : claims = ahead := by simpa using hcl
      subst hcl'
      refine ⟨v, g, kc, ?_, by simpa using O, C⟩
      show f_drawback_carry_b3 Try.prog T D N (f_drawback_carry_L3 Try.prog T D N x3 xr n) x3 xr _ _ _ _ _ _ _ = _
      simp [f_drawback_carry_b3]
    | cons c cs =>
      have hi : ahead.length < claims.length := by rw [hcl]; simp
      have hci : claims[ahead.length]? = some c := by rw [hcl]; simp
      have hlt : ((ahead.length : Int) < (claims.length : Int)) := by omega
      obtain ⟨m, rfl⟩ : ∃ m, N = m + 7 := ⟨N - 7, by omega⟩
      have start : f_drawback_carry_L3 Try.prog T D (m + 7) x3 xr (n + 1) (.ptr 2 0 0 1) (.sl 2 (fk + 3) 0 6 6 true) v (.lst 3 b (claims.map encC)) (I claims.length) (I ahead.length) (fileH kp kc (lastL ahead) limit g) =
          f_drawback_carry_L6 Try.prog T D (m + 7) (fun w99_12 w99_15 w99_16 w99_18 w99_59 w99_60 w99_61 h => f_drawback_carry_j5 Try.prog T D (m + 7) (f_drawback_carry_L3 Try.prog T D (m + 7) x3 xr n) x3 xr w99_12 w99_15 w99_16 w99_18 w99_59 w99_60 w99_61 h) (fun w100_6 w100_7 w100_8 w100_9 h => xr w100_6 w100_7 w100_8 w100_9 h)
            (m + 7) (.ptr 2 0 0 1) (.sl 2 (fk + 3) 0 6 6 true) v (I ahead.length) (.ptr (g.length + 3) 0 0 1) (.lst 3 b (claims.map encC)) (I claims.length) (I ahead.length) (.sl 2 (fk + 3) 0 6 6 true) (I 6) (I 0) (fileH kp kc (lastL ahead) limit (g ++ [.arr 3 [encC c] true false])) := by
        show f_drawback_carry_b3 Try.prog T D (m + 7) (f_drawback_carry_L3 Try.prog T D (m + 7) x3 xr n) x3 xr _ _ _ _ _ _ _ = _
        simp [f_drawback_carry_b3, hlt, hci, encC]
      have hd : ∀ p, paidL l c.paid = some p → 0 ≤ p.day ∧ p.day ≤ 100000 ∧ 0 ≤ claimedL ahead c.paid ∧ claimedL ahead c.paid ≤ 10737418240000 := fun p hp => by
        have h1 := okP_bd (hl p (paidL_mem hp).1)
        have h2 := W _ _ hp
        omega
      obtain ⟨g', hL⟩ := carry_L6 (P := Try.prog) (D := D) (N := m + 7) (x5 := fun w99_12 w99_15 w99_16 w99_18 w99_59 w99_60 w99_61 h => f_drawback_carry_j5 Try.prog T D (m + 7) (f_drawback_carry_L3 Try.prog T D (m + 7) x3 xr n) x3 xr w99_12 w99_15 w99_16 w99_18 w99_59 w99_60 w99_61 h) (xr := fun w100_6 w100_7 w100_8 w100_9 h => xr w100_6 w100_7 w100_8 w100_9 h)
        (v15 := .sl 2 (fk + 3) 0 6 6 true) (v16 := v) (v17 := I ahead.length) (v59 := .lst 3 b (claims.map encC)) (v60 := I claims.length) (v61 := I ahead.length) (fid := fk + 3) (cb := g.length + 3) (c := c) (last := lastL ahead) (limit := limit) hT A C (g := g ++ [.arr 3 [encC c] true false]) hd
        (by simpa using get_app hf) (by simp) m
      rw [start, hL]
      simp only [runC]
      by_cases he : errC l limit ahead c = 0
      · have he' : stepErr (paidL l) (claimedL ahead) (lastL ahead) limit c = 0 := he
        rw [if_pos he', if_pos he]
        obtain ⟨p, hp, q1, q2, q3, -⟩ := err0 he
        have hbp := okP_bd (hl p (paidL_mem hp).1)
        have hwp := W _ _ hp
        obtain ⟨v', g'', kc', r1, r2, r3, r4⟩ := carry_j5 (T := T) (N := m + 7) (xn := f_drawback_carry_L3 Try.prog T D (m + 7) x3 xr n) (x3 := x3) (xr := xr) (v15 := .sl 2 (fk + 3) 0 6 6 true) (v59 := .lst 3 b (claims.map encC)) (v60 := I claims.length) (last := lastL ahead) (limit := limit) (i := ahead.length) (cb := g.length) (g := g ++ [.arr 3 [encC c] true false] ++ g') hD A C hp
          (by simp) ((O.app _).app _) (by omega) (by omega) (by omega) (by omega) (by omega)
        rw [r1]
        have hl1 : lastL (ahead ++ [c]) = c.day := lastL_snoc ahead c
        have hcl2 : (fun n => if n = c.paid then claimedL ahead n + c.alc else claimedL ahead n) = claimedL (ahead ++ [c]) := by funext n; rw [claimedL_snoc]
        rw [hcl2] at r3
        have hrf : refundC l ahead c = partOf p (claimedL ahead c.paid + c.alc) - partOf p (claimedL ahead c.paid) := by simp [refundC, hp]
        rw [← hrf] at r2
        have h4 := ih (ahead ++ [c]) cs (outs ++ [refundC l ahead c]) v' g'' kc' (by simpa using hcl) (by simpa using hn) (by simp [ho]) (W.snoc he) r3 r2 (r4 _ _ (get_app (get_app hf)))
        rw [hl1] at h4
        simp only [List.length_append, List.length_cons, List.length_nil, Nat.zero_add] at h4
        revert h4
        cases runC l limit (ahead ++ [c]) cs with
        | inl e => exact id
        | inr r =>
          rintro ⟨v2, g2, kc2, s1, s2, s3⟩
          exact ⟨v2, g2, kc2, s1, by simpa using s2, s3⟩
      · have he' : ¬ stepErr (paidL l) (claimedL ahead) (lastL ahead) limit c = 0 := he
        rw [if_neg he', if_neg he]
        exact ⟨he, _, rfl⟩
end
end Go.AM
