import Derived.Test.YtlnjnfbdcdmacaaDbm
import Derived.Test.YtlnjnfbdcdmacaaAmOut
/- drawback: DrawbackOthers. -/
namespace Go.AM
open Go.Proofs
set_option linter.unusedVariables false
set_option linter.unusedSimpArgs false
set_option linter.constructorNameAsVariable false
set_option maxRecDepth 20000
def few (m n : Nat) : Bool := (decide (m ≤ 8) || decide (m = 65)) && (decide (n ≤ 12) || decide (n = 65))
theorem F_ref48_Few_val (l : List Paid) (claims : List Claim) (b1 b2 : Bool) (h : Hp) : F_ref48_Few [.lst 5 b1 (l.map encP), .lst 3 b2 (claims.map encC)] h = some (B (few l.length claims.length), h) := by
  refine F_ref48_Few_run rfl ?_ h
  have e1 : ∀ m : Nat, ((m : Int) = 65) = (m = 65) := fun m => by simp; omega
  have e2 : ∀ m : Nat, ((m : Int) ≤ 8) = (m ≤ 8) := fun m => by simp; omega
  have e3 : ∀ m : Nat, ((m : Int) ≤ 12) = (m ≤ 12) := fun m => by simp; omega
  have e4 : ∀ m : Nat, ((m : Int) == 65) = decide (m = 65) := fun m => by rw [Bool.eq_iff_iff]; simp; omega
  simp [f_ref48_Few, few, e1, e2, e3, e4]
theorem few_bd {m n : Nat} (h : few m n = true) : m ≤ 65 ∧ n ≤ 65 := by simp [few] at h; omega
/-- The claims for one paid duty, and their refunds. -/
def ownOf (id : Int) (cs : List Claim) : List Claim := cs.filter fun c => decide (c.paid = id)
def pick (id : Int) (cs : List Claim) (r : List Int) : List Int := ((cs.zip r).filter fun x => decide (x.1.paid = id)).map (·.2)
theorem stepErr_congr {paid : Int → Option Paid} {cl cl' : Int → Int} {last last' limit : Int} {c : Claim} (h1 : cl' c.paid = cl c.paid) (h2 : last' ≤ last) (h : stepErr paid cl last limit c = 0) : stepErr paid cl' last' limit c = 0 := by
  unfold stepErr at h ⊢
  split at h
  · simp at h
  · split at h
    · simp at h
    · rename_i q1 q2
      rw [if_neg q1, if_neg (by omega), h1]
      exact h
theorem runC_own {l : List Paid} {limit id : Int} : ∀ (cs ahead ahead' : List Claim) (r : List Int), runC l limit ahead cs = .inr r → claimedL ahead' id = claimedL ahead id → lastL ahead' ≤ lastL ahead → runC l limit ahead' (ownOf id cs) = .inr (pick id cs r)
  | [], ahead, ahead', r, h, _, _ => by
    simp only [runC, Sum.inr.injEq] at h
    subst h
    rfl
  | c :: cs, ahead, ahead', r, h, h1, h2 => by
    simp only [runC] at h
    by_cases he : errC l limit ahead c = 0
    · rw [if_pos he] at h
      cases hr : runC l limit (ahead ++ [c]) cs with
      | inl e => rw [hr] at h; simp at h
      | inr r' =>
        rw [hr] at h
        simp only [Sum.inr.injEq] at h
        subst h
        obtain ⟨p, hp, q1, q2, q3, q4, -⟩ := err0 he
        by_cases hc : c.paid = id
        · have h1' : claimedL ahead' c.paid = claimedL ahead c.paid := by rw [hc]; exact h1
          have he' : errC l limit ahead' c = 0 := stepErr_congr h1' h2 he
          have hf : refundC l ahead' c = refundC l ahead c := by unfold refundC; rw [h1']
          have ih := runC_own (id := id) cs (ahead ++ [c]) (ahead' ++ [c]) r' hr (by rw [claimedL_snoc, claimedL_snoc, h1]) (by rw [lastL_snoc, lastL_snoc]; omega)
          have e1 : ownOf id (c :: cs) = c :: ownOf id cs := by simp [ownOf, hc]
          have e2 : pick id (c :: cs) (refundC l ahead c :: r') = refundC l ahead c :: pick id cs r' := by simp [pick, hc]
          rw [e1, e2]
          simp only [runC]
          rw [if_pos he', ih, hf]
        · have e1 : ownOf id (c :: cs) = ownOf id cs := by simp [ownOf, hc]
          have e2 : pick id (c :: cs) (refundC l ahead c :: r') = pick id cs r' := by simp [pick, hc]
          rw [e1, e2]
          exact runC_own cs (ahead ++ [c]) ahead' r' hr (by rw [claimedL_snoc, if_neg (fun e => hc e.symm), h1]) (by rw [lastL_snoc]; omega)
    · rw [if_neg he] at h; simp at h
theorem refundS_own {l : List Paid} {claims : List Claim} {limit : Int} {r : List Int} (h : carryS l claims limit = .inr r) (id : Int) : refundS l (ownOf id claims) limit = (pick id claims r, -1, 0) := by
  obtain ⟨h1, h2, h3, h4⟩ := carryS_inr h
  have h5 := runC_own (id := id) claims [] [] r h4 rfl (Int.le_refl _)
  have h6 : (ownOf id claims).length ≤ 64 := Nat.le_trans (List.length_filter_le _ _) h3
  have h7 : ¬ 64 < (ownOf id claims).length := by omega
  unfold refundS carryS
  rw [if_neg (by simp [h1]), if_neg (by simp [h2]), if_neg h7, h5]
section
variable {β : Type} {P : Program} {T : Tab} {D : DTab} {N : Nat} {K : AV → Hp → Option β} {x0 : AV → AV → AV → AV → Hp → Option β}
theorem others_L2 (claims : List Claim) (r : List Int) (hr : r.length = claims.length) (hn : claims.length ≤ 65) (b1 b2 : Bool) (v0 v2 : AV) (id : Int) : ∀ (n : Nat) (pre post : List Claim) (rp rq : List Int) (v w : AV) (h : Hp), claims = pre ++ post → r = rp ++ rq → rp.length = pre.length → post.length < n →
    Gro 3 encC h v (ownOf id pre) → Gro 1 encI h w (pick id pre rp) → (∀ k, idOf v = some k → idOf w ≠ some k) →
    ∃ v' w' h', f_law48_DrawbackOthers_L2 Try.prog T D N x0 n v0 v2 (I id) (.lst 1 b1 (r.map encI)) v w (.lst 3 b2 (claims.map encC)) (I claims.length) (I pre.length) h = x0 v0 v2 v' w' h' ∧ Gro 3 encC h' v' (ownOf id claims) ∧ Gro 1 encI h' w' (pick id claims r) := by
  intro n
  induction n with
  | zero => intro pre post rp rq v w h _ _ _ h1; omega
  | succ n ih =>
    intro pre post rp rq v w h hc hrr hl hpn G1 G2 hs
    have e0 : f_law48_DrawbackOthers_L2 Try.prog T D N x0 (n + 1) v0 v2 (I id) (.lst 1 b1 (r.map encI)) v w (.lst 3 b2 (claims.map encC)) (I claims.length) (I pre.length) h = f_law48_DrawbackOthers_b2 Try.prog T D N (f_law48_DrawbackOthers_L2 Try.prog T D N x0 n) x0 v0 v2 (I id) (.lst 1 b1 (r.map encI)) v w (.lst 3 b2 (claims.map encC)) (I claims.length) (I pre.length) h := rfl
    rw [e0]
    cases post with
    | nil =>
      have hcl : claims = pre := by simpa using hc
      subst hcl
      have hrq : rq = [] := by
        have := congrArg List.length hrr; simp at this; exact List.eq_nil_of_length_eq_zero (by omega)
      subst hrq
      have hre : r = rp := by simpa using hrr
      subst hre
      exact ⟨v, w, h, by simp [f_law48_DrawbackOthers_b2], G1, G2⟩
    | cons c post =>
      cases rq with
      | nil => have := congrArg List.length hrr; have := congrArg List.length hc; simp at *; omega
      | cons x rq =>
        have hi : pre.length < claims.length := by rw [hc]; simp
        have hx : claims[pre.length]? = some c := by rw [hc]; simp
        have hy : r[pre.length]? = some x := by rw [hrr, ← hl]; simp
        have hlt : ((pre.length : Int) < (claims.length : Int)) := by omega
        have hw : IntKind.i64.wrap ((pre.length : Int) + 1) = (((pre ++ [c]).length : Nat) : Int) := by rw [wrap64 (by omega) (by omega)]; simp
        have step := ih (pre ++ [c]) post (rp ++ [x]) rq
        by_cases hcid : c.paid = id
        · have e1 : ownOf id (pre ++ [c]) = ownOf id pre ++ [c] := by simp [ownOf, hcid]
          have e2 : pick id (pre ++ [c]) (rp ++ [x]) = pick id pre rp ++ [x] := by simp [pick, List.zip_append hl.symm, hcid]
          have hol : (ownOf id pre).length ≤ pre.length := List.length_filter_le _ _
          have hpl : (pick id pre rp).length ≤ pre.length := by
            unfold pick; rw [List.length_map]; refine Nat.le_trans (List.length_filter_le _ _) ?_; simp; omega
          obtain ⟨v', h3, k1, k2, k3, k4, k5⟩ := (G1.app [.arr 3 [encC c] true false, .arr 3 [encC c] true false]).snoc β (by_ := 24) (m := h.length + 1) (z := c) (b := true) (by simp) (fun e => by have := G1.lt e; omega) (by intro y _; rfl) (by omega)
          have G2' : Gro 1 encI h3 w (pick id pre rp) := (G2.app _).keep fun k o hk ho => k4 k o ho (fun e => hs k e hk)
          obtain ⟨w', h5, m1, m2, m3, m4, m5⟩ := (G2'.app [.arr 1 [encI x] true false]).snoc β (by_ := 8) (m := h3.length) (z := x) (b := true) (by simp) (fun e => by have := G2'.lt e; omega) (by intro y _; rfl) (by omega)
          have hwlt : ∀ k, idOf w = some k → k < h.length := fun k hk => G2.lt hk
          simp at k3 k5 m3 m5
          have G1' : Gro 3 encC h5 v' (ownOf id pre ++ [c]) := (k2.app [.arr 1 [encI x] true false]).keep fun k o hk ho => m4 k o ho (fun e => by
            rcases k5 with k5 | k5
            · exact hs k (k5 ▸ hk) e
            · rw [k5] at hk; simp at hk; have := hwlt k e; omega)
          obtain ⟨v2', w2', h2', r1, r2, r3⟩ := step v' w' h5 (by simpa using hc) (by simpa using hrr) (by simp [hl]) (by simpa using hpn) (by rw [e1]; exact G1') (by rw [e2]; exact m2) (by
            intro k hk hk2
            rcases m5 with m5 | m5
            · rw [m5] at hk2
              rcases k5 with k5 | k5
              · exact hs k (k5 ▸ hk) hk2
              · rw [k5] at hk; simp at hk; have := hwlt k hk2; omega
            · rw [m5] at hk2; simp at hk2; have := k2.lt hk; omega)
          refine ⟨v2', w2', h2', ?_, r2, r3⟩
          rw [← r1]
          simp [encC, encI, hcid] at k1 m1
          simp [f_law48_DrawbackOthers_b2, hlt, hx, hy, encC, encI, boxE, hcid, bsE, fillS, k1, m1, f_law48_DrawbackOthers_j4, f_law48_DrawbackOthers_j3, hw]
        · have e1 : ownOf id (pre ++ [c]) = ownOf id pre := by simp [ownOf, hcid]
          have e2 : pick id (pre ++ [c]) (rp ++ [x]) = pick id pre rp := by simp [pick, List.zip_append hl.symm, hcid]
          obtain ⟨v2', w2', h2', r1, r2, r3⟩ := step v w (h ++ [.arr 3 [encC c] true false]) (by simpa using hc) (by simpa using hrr) (by simp [hl]) (by simpa using hpn) (by rw [e1]; exact G1.app _) (by rw [e2]; exact G2.app _) hs
          refine ⟨v2', w2', h2', ?_, r2, r3⟩
          rw [← r1]
          simp [f_law48_DrawbackOthers_b2, hlt, hx, hy, encC, boxE, hcid, f_law48_DrawbackOthers_j4, f_law48_DrawbackOthers_j3, hw]
end
theorem F_drawback_Refund_any (l : List Paid) (claims : List Claim) (b1 b2 : Bool) (limit : Int) (h : Hp) {x0 x1 a0 a1 : AV} (ha : cvts false h [x0, x1, I limit] = some [a0, a1, I limit]) (n0 : nrm (.l 5) a0 = .lst 5 b1 (l.map encP)) (n1 : nrm (.l 3) a1 = .lst 3 b2 (claims.map encC)) : F_drawback_Refund [x0, x1, I limit] h =
    some (.tup [SL 1 encI (refundS l claims limit).1.isEmpty (refundS l claims limit).1, I (refundS l claims limit).2.1, I (refundS l claims limit).2.2], h) := by
  have hc := carry_val l claims b1 b2 limit
  unfold refundS
  revert hc
  cases hS : carryS l claims limit with
  | inl je =>
    rintro ⟨h1, H, h2⟩
    refine (F_drawback_Refund_own (v := .tup [nilS, I je.1, I je.2]) ha (fun st => ?_)).trans rfl
    rw [n0, n1]
    simp [f_drawback_Refund, h2]
  | inr r =>
    rintro ⟨v, kp, kc, g, h1, O, -⟩
    obtain ⟨w, hw, q1⟩ := O.cvts (.map kp) (.map kc) (fileO (lastL claims) limit)
    refine (F_drawback_Refund_own (v := .tup [w, I (-1), I 0]) ha (fun st => ?_)).trans ?_
    · rw [n0, n1]
      simp [f_drawback_Refund, h1, hw]
    · show some (AV.tup [nrm (.l 1) w, I (-1), I 0], h) = _
      rw [q1]
theorem F_slices_Equal_int_any (xs ys : List Int) (b1 b2 : Bool) (hb : xs.length < 1000000) (hy : ys.length < 1000000) (h : Hp) {x0 x1 a0 a1 : AV} (ha : cvts false h [x0, x1] = some [a0, a1]) (n0 : nrm (.l 1) a0 = .lst 1 b1 (xs.map encI)) (n1 : nrm (.l 1) a1 = .lst 1 b2 (ys.map encI)) : F_slices_Equal_int [x0, x1] h = some (B (decide (xs = ys)), h) :=
  closedX_scal' ha (by simp only [nrms, n0, n1]; rfl) rfl (F_slices_Equal_int_val xs ys b1 b2 hb hy []) rfl
theorem carryS_inl {l : List Paid} {claims : List Claim} {limit : Int} {je : Int × Int} (h : carryS l claims limit = .inl je) : je.2 ≠ 0 := by
  have := carry_val l claims false false limit
  rw [h] at this
  exact this.1
theorem others_law (l : List Paid) (b1 : Bool) (claims : List Claim) (b2 : Bool) (limit id : Int) : F_law48_DrawbackOthers [SL 5 encP b1 l, SL 3 encC b2 claims, I limit, I id] [] = some (B true, []) := by
  refine F_law48_DrawbackOthers_run rfl ?_ []
  cases hf : few l.length claims.length with
  | false => simp [f_law48_DrawbackOthers, F_law48_awake_val, F_ref48_Few_val, hf]
  | true =>
    obtain ⟨m1, m2⟩ := few_bd hf
    have c1 := F_slices_Clone_Paid_val l b1 (by omega)
    have c2 := F_slices_Clone_Claim_val claims b2 (by omega)
    have rf := F_drawback_Refund_val l claims
    cases hS : carryS l claims limit with
    | inl je =>
      have he := carryS_inl hS
      have e1 : refundS l claims limit = ([], je.1, je.2) := by simp [refundS, hS]
      simp [f_law48_DrawbackOthers, F_law48_awake_val, F_ref48_Few_val, hf, c1, c2, rf, e1, he]
    | inr r =>
      obtain ⟨g1, g2, g3, g4, g5⟩ := carryS_within hS
      have e1 : refundS l claims limit = (r, -1, 0) := by simp [refundS, hS]
      obtain ⟨v', w', h', k1, k2, k3⟩ := others_L2 (T := t_law48_DrawbackOthers) (D := d_law48_DrawbackOthers) (N := NN) (x0 := fun w66_0 w66_2 w66_12 w66_13 h => f_law48_DrawbackOthers_j1 Try.prog t_law48_DrawbackOthers d_law48_DrawbackOthers NN (fun v g => cvt false g v) w66_0 w66_2 w66_12 w66_13 h)
        claims r g3 m2 (r.isEmpty && r.isEmpty) (b2 && claims.isEmpty) (SL 5 encP b1 l) (I limit) id NN [] claims [] r nilS nilS [] rfl rfl rfl (by have := NN_ge; omega) .nil .nil (by simp)
      obtain ⟨y1, p1, p2⟩ := k2.cvts (by intro x st; cases st <;> rfl)
      obtain ⟨y2, p3, p4⟩ := k3.cvts (by intro x st; cases st <;> rfl)
      have e2 := F_drawback_Refund_any l (ownOf id claims) (b1 && l.isEmpty) (ownOf id claims).isEmpty limit h' (x0 := SL 5 encP b1 l) (x1 := v') (a0 := SL 5 encP b1 l) (a1 := y1) (by simp [Go.AM.cvts, p1]) rfl p2
      rw [refundS_own hS id] at e2
      have e3 := F_slices_Equal_int_any (pick id claims r) (pick id claims r) ((pick id claims r).isEmpty && (pick id claims r).isEmpty) (pick id claims r).isEmpty (by
        have : (pick id claims r).length ≤ r.length := by
          unfold pick; rw [List.length_map]; refine Nat.le_trans (List.length_filter_le _ _) ?_; simp; omega
        omega) (by
        have : (pick id claims r).length ≤ r.length := by
          unfold pick; rw [List.length_map]; refine Nat.le_trans (List.length_filter_le _ _) ?_; simp; omega
        omega) h' (x0 := SL 1 encI (pick id claims r).isEmpty (pick id claims r)) (x1 := w') (a0 := SL 1 encI (pick id claims r).isEmpty (pick id claims r)) (a1 := y2) (by simp [Go.AM.cvts, p3]) rfl p4
      have e4 : ((r.length : Int) = (claims.length : Int)) := by omega
      simp [f_law48_DrawbackOthers, F_law48_awake_val, F_ref48_Few_val, hf, c1, c2, rf, e1, e4]
      refine k1.trans ?_
      simp at e2 e3
      simp [f_law48_DrawbackOthers_j1, c1, e2, e3]
end Go.AM
