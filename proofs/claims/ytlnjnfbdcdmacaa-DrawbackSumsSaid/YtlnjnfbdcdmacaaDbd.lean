import Derived.Test.YtlnjnfbdcdmacaaDbc
/- drawback: the loop over the faults. -/
namespace Go.AM
open Go.Proofs
set_option linter.unusedVariables false
set_option linter.unusedSimpArgs false
set_option linter.constructorNameAsVariable false
set_option maxRecDepth 20000
def faultRows : List (List AV) := [[.fn 46 [], I 2], [.fn 47 [], I 5], [.fn 48 [], I 7], [.fn 49 [], I 11], [.fn 50 [], I 23], [.fn 51 [], I 17]]
def stepErr (paid : Int → Option Paid) (cl : Int → Int) (last limit : Int) (c : Claim) : Int :=
  if bad1 c then 2 else if c.day < last then 5 else match paid c.paid with
    | none => 7
    | some p => if c.day < p.day then 11 else if limit < c.day - p.day then 23 else if p.alc < cl c.paid + c.alc then 17 else 0
theorem F_faults (h : Hp) : F_drawback_faults [] h = some (.sl 2 h.length 0 6 6 true, h ++ [.arr 2 faultRows true false]) := by
  rw [F_drawback_faults_raw]
  simp [f_drawback_faults, buildK, fillA, bsE, fillS, faultRows]
section
variable {β : Type} {P : Program} {T : Tab} {D : DTab} {N : Nat} {K : AV → Hp → Option β}
variable {xn : AV → AV → AV → AV → AV → AV → AV → AV → AV → AV → AV → Hp → Option β} {x5 : AV → AV → AV → AV → AV → AV → AV → Hp → Option β} {xr : AV → AV → AV → AV → Hp → Option β} {v15 v16 v17 v59 v60 v61 : AV} {h : Hp} {fid cb : Nat} {c : Claim}
theorem carry_b6 {j f : Nat} {e : Int} {b : Bool} (hj : j < 6) (hr : faultRows[j]? = some [.fn f [], I e]) (hf : h[fid]? = some (.arr 2 faultRows true false)) (hc : h[cb]? = some (.arr 3 [encC c] true false))
    (hF : ∀ (x : List AObj) (k : AV → Hp → Option β), callK (T f) [.ptr 2 0 0 1, .agg (encC c)] (h ++ x) k = k (B b) (h ++ x)) :
    f_drawback_carry_b6 P T D N xn x5 xr (.ptr 2 0 0 1) v15 v16 v17 (.ptr cb 0 0 1) v59 v60 v61 (.sl 2 fid 0 6 6 true) (I 6) (I j) h =
      if b = true then xr (.s (.pointer none)) nilS v17 (I e) (h ++ [.arr 2 [[.fn f [], I e]] true false]) else xn (.ptr 2 0 0 1) v15 v16 v17 (.ptr cb 0 0 1) v59 v60 v61 (.sl 2 fid 0 6 6 true) (I 6) (I (j + 1 : Nat)) (h ++ [.arr 2 [[.fn f [], I e]] true false]) := by
  have h1 : (j : Int) < 6 := by omega
  have hw : IntKind.i64.wrap ((j : Int) + 1) = ((j + 1 : Nat) : Int) := by rw [wrap64 (by omega) (by omega)]; omega
  have hl : faultRows.length = 6 := rfl
  have hF' := fun k => hF [.arr 2 [[.fn f [], I e]] true false] k
  simp only [encC] at hF' hc
  simp only [f_drawback_carry_b6, arithK_lss, h1, decide_true, condK_bool, if_true, iaK_sl (show (0 : Int) ≤ (j : Int) by omega) h1]
  simp [hf, hr, hl, get_app hc, hF', hw]
/-- All faults of a claim, in turn. -/
theorem carry_L6 (hT : ∀ g args (hh : Hp) (k : AV → Hp → Option β), callK (T g) args hh k = callK (t_drawback_carry g) args hh k) {kp kc : List (Value × AV)} {last limit : Int} {paid : Int → Option Paid} {cl : Int → Int} (A : PaidAt kp paid) (C : ClaimedAt kc cl) {g : List AObj}
    (hd : ∀ p, paid c.paid = some p → 0 ≤ p.day ∧ p.day ≤ 100000 ∧ 0 ≤ cl c.paid ∧ cl c.paid ≤ 10737418240000) (hf : (fileH kp kc last limit g)[fid]? = some (.arr 2 faultRows true false)) (hc : (fileH kp kc last limit g)[cb]? = some (.arr 3 [encC c] true false)) (n : Nat) :
    ∃ g', f_drawback_carry_L6 P T D N x5 xr (n + 7) (.ptr 2 0 0 1) v15 v16 v17 (.ptr cb 0 0 1) v59 v60 v61 (.sl 2 fid 0 6 6 true) (I 6) (I 0) (fileH kp kc last limit g) =
      if stepErr paid cl last limit c = 0 then x5 (.ptr 2 0 0 1) v15 v16 (.ptr cb 0 0 1) v59 v60 v61 (fileH kp kc last limit (g ++ g')) else xr (.s (.pointer none)) nilS v17 (I (stepErr paid cl last limit c)) (fileH kp kc last limit (g ++ g')) := by
  have one : ∀ (m j f : Nat) (e : Int) (b : Bool) (g' : List AObj), j < 6 → faultRows[j]? = some [.fn f [], I e] → (∀ (x : List AObj) (k : AV → Hp → Option β), callK (t_drawback_carry f) [.ptr 2 0 0 1, .agg (encC c)] (fileH kp kc last limit x) k = k (B b) (fileH kp kc last limit x)) →
      ∃ x, f_drawback_carry_L6 P T D N x5 xr (m + 1) (.ptr 2 0 0 1) v15 v16 v17 (.ptr cb 0 0 1) v59 v60 v61 (.sl 2 fid 0 6 6 true) (I 6) (I j) (fileH kp kc last limit (g ++ g')) =
        if b = true then xr (.s (.pointer none)) nilS v17 (I e) (fileH kp kc last limit (g ++ (g' ++ x))) else f_drawback_carry_L6 P T D N x5 xr m (.ptr 2 0 0 1) v15 v16 v17 (.ptr cb 0 0 1) v59 v60 v61 (.sl 2 fid 0 6 6 true) (I 6) (I (j + 1 : Nat)) (fileH kp kc last limit (g ++ (g' ++ x))) := by
    intro m j f e b g' hj hr hF
    refine ⟨[.arr 2 [[.fn f [], I e]] true false], ?_⟩
    show f_drawback_carry_b6 P T D N (f_drawback_carry_L6 P T D N x5 xr m) x5 xr _ _ _ _ _ _ _ _ _ _ _ _ = _
    have hf' : (fileH kp kc last limit (g ++ g'))[fid]? = some (.arr 2 faultRows true false) := get_app (g := g') hf
    have hc' : (fileH kp kc last limit (g ++ g'))[cb]? = some (.arr 3 [encC c] true false) := get_app (g := g') hc
    refine (carry_b6 (e := e) (b := b) hj hr hf' hc' (fun x k => by rw [hT f _ _ k]; exact hF (g ++ g' ++ x) k)).trans ?_
    simp
  have e1 : ∀ (x : List AObj) (k : AV → Hp → Option β), callK (t_drawback_carry 46) [.ptr 2 0 0 1, .agg (encC c)] (fileH kp kc last limit x) k = k (B (bad1 c)) (fileH kp kc last limit x) := fun x k => by rw [t_drawback_carry_46, callK_F, fault1]
  have e2 : ∀ (x : List AObj) (k : AV → Hp → Option β), callK (t_drawback_carry 47) [.ptr 2 0 0 1, .agg (encC c)] (fileH kp kc last limit x) k = k (B (decide (c.day < last))) (fileH kp kc last limit x) := fun x k => by rw [t_drawback_carry_47, callK_F, fault2]
  have e3 : ∀ (x : List AObj) (k : AV → Hp → Option β), callK (t_drawback_carry 48) [.ptr 2 0 0 1, .agg (encC c)] (fileH kp kc last limit x) k = k (B (paid c.paid).isNone) (fileH kp kc last limit x) := fun x k => by rw [t_drawback_carry_48, callK_F, fault3 A]
  obtain ⟨g1, s1⟩ := one (n + 6) 0 _ _ _ [] (by decide) rfl e1
  simp only [List.append_nil, List.nil_append] at s1
  rw [show ((0 : Nat) : Int) = 0 from rfl] at s1
  by_cases b1 : bad1 c = true
  · exact ⟨g1, by rw [s1]; simp [stepErr, b1]⟩
  rw [if_neg b1] at s1
  obtain ⟨g2, s2⟩ := one (n + 5) 1 _ _ _ g1 (by decide) rfl e2
  rw [s2] at s1
  by_cases b2 : c.day < last
  · exact ⟨g1 ++ g2, by rw [s1]; simp [stepErr, b1, b2]⟩
  rw [if_neg (by simpa using b2)] at s1
  obtain ⟨g3, s3⟩ := one (n + 4) 2 _ _ _ (g1 ++ g2) (by decide) rfl e3
  rw [s3] at s1
  cases hp : paid c.paid with
  | none => exact ⟨g1 ++ g2 ++ g3, by rw [s1]; simp [stepErr, b1, b2, hp]⟩
  | some p =>
    rw [hp, if_neg (by simp)] at s1
    obtain ⟨d1, d2, d3, d4⟩ := hd p hp
    have hb : 0 ≤ c.day ∧ c.day ≤ 100000 ∧ 1 ≤ c.alc ∧ c.alc ≤ 10737418240000 := by simp [bad1, win] at b1; omega
    have w1 : IntKind.i64.wrap (c.day - p.day) = c.day - p.day := wrap64 (by omega) (by omega)
    have w2 : IntKind.i64.wrap (cl c.paid + c.alc) = cl c.paid + c.alc := wrap64 (by omega) (by omega)
    have e4 : ∀ (x : List AObj) (k : AV → Hp → Option β), callK (t_drawback_carry 49) [.ptr 2 0 0 1, .agg (encC c)] (fileH kp kc last limit x) k = k (B (decide (c.day < p.day))) (fileH kp kc last limit x) := fun x k => by rw [t_drawback_carry_49, callK_F, fault4 A hp]
    have e5 : ∀ (x : List AObj) (k : AV → Hp → Option β), callK (t_drawback_carry 50) [.ptr 2 0 0 1, .agg (encC c)] (fileH kp kc last limit x) k = k (B (decide (limit < c.day - p.day))) (fileH kp kc last limit x) := fun x k => by rw [t_drawback_carry_50, callK_F, fault5 A hp w1]
    have e6 : ∀ (x : List AObj) (k : AV → Hp → Option β), callK (t_drawback_carry 51) [.ptr 2 0 0 1, .agg (encC c)] (fileH kp kc last limit x) k = k (B (decide (p.alc < cl c.paid + c.alc))) (fileH kp kc last limit x) := fun x k => by rw [t_drawback_carry_51, callK_F, fault6 A C hp w2]
    obtain ⟨g4, s4⟩ := one (n + 3) 3 _ _ _ (g1 ++ g2 ++ g3) (by decide) rfl e4
    rw [s4] at s1
    by_cases b4 : c.day < p.day
    · exact ⟨g1 ++ g2 ++ g3 ++ g4, by rw [s1]; simp [stepErr, b1, b2, hp, b4]⟩
    rw [if_neg (by simpa using b4)] at s1
    obtain ⟨g5, s5⟩ := one (n + 2) 4 _ _ _ (g1 ++ g2 ++ g3 ++ g4) (by decide) rfl e5
    rw [s5] at s1
    by_cases b5 : limit < c.day - p.day
    · exact ⟨g1 ++ g2 ++ g3 ++ g4 ++ g5, by rw [s1]; simp [stepErr, b1, b2, hp, b4, b5]⟩
    rw [if_neg (by simpa using b5)] at s1
    obtain ⟨g6, s6⟩ := one (n + 1) 5 _ _ _ (g1 ++ g2 ++ g3 ++ g4 ++ g5) (by decide) rfl e6
    rw [s6] at s1
    by_cases b6 : p.alc < cl c.paid + c.alc
    · exact ⟨g1 ++ g2 ++ g3 ++ g4 ++ g5 ++ g6, by rw [s1]; simp [stepErr, b1, b2, hp, b4, b5, b6]⟩
    rw [if_neg (by simpa using b6)] at s1
    refine ⟨g1 ++ g2 ++ g3 ++ g4 ++ g5 ++ g6, ?_⟩
    rw [s1]
    have hs : stepErr paid cl last limit c = 0 := by simp [stepErr, b1, b2, hp, b4, b5, b6]
    rw [if_pos hs]
    show f_drawback_carry_b6 P T D N (f_drawback_carry_L6 P T D N x5 xr n) x5 xr _ _ _ _ _ _ _ _ _ _ _ _ = _
    simp [f_drawback_carry_b6]
end
end Go.AM
