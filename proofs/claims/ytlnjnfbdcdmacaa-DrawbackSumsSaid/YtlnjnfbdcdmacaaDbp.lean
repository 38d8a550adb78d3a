import Derived.Test.YtlnjnfbdcdmacaaDbo
/- drawback: DrawbackSums. -/
namespace Go.AM
open Go.Proofs
set_option linter.unusedVariables false
set_option linter.unusedSimpArgs false
set_option linter.constructorNameAsVariable false
set_option maxRecDepth 20000
theorem G_slices_Clone_Paid_val (l : List Paid) (b : Bool) (hl : l.length < 1000000) (h : Hp) (base : Nat) : G_slices_Clone_Paid [SL 5 encP b l] h base = some (SL 5 encP b l, EF []) := (closedXD_val (F_slices_Clone_Paid_val l b hl h) base).trans (by simp [idss, ids])
theorem G_slices_Clone_Claim_val (l : List Claim) (b : Bool) (hl : l.length < 1000000) (h : Hp) (base : Nat) : G_slices_Clone_Claim [SL 3 encC b l] h base = some (SL 3 encC b l, EF []) := (closedXD_val (F_slices_Clone_Claim_val l b hl h) base).trans (by simp [idss, ids])
theorem G_drawback_Left_val (l : List Paid) (claims : List Claim) (b1 b2 : Bool) (limit id : Int) (h : Hp) (base : Nat) : G_drawback_Left [.lst 5 b1 (l.map encP), .lst 3 b2 (claims.map encC), I limit, I id] h base =
    some (.tup [I (leftS l claims limit id).1, I (leftS l claims limit id).2.1, I (leftS l claims limit id).2.2], EF []) := (closedXD_val (F_drawback_Left_val l claims b1 b2 limit id h) base).trans (by simp [idss, ids])
section
variable {β : Type} {P : Program} {T : Tab} {D : DTab} {N : Nat} {K : AV → Hp → Option β}
theorem sums_L5 {x2 : AV → AV → AV → AV → AV → AV → AV → AV → AV → AV → AV → Hp → Option β} {xr : AV → Hp → Option β} (claims : List Claim) (r : List Int) (hn : claims.length ≤ 65) (b1 b2 : Bool) (v0 v1 v2 v53 v54 v55 : AV) (p : Paid) (hd : 0 ≤ p.duty ∧ p.duty ≤ 1099511627776)
    (hx : ∀ x ∈ pick p.id claims r, 0 ≤ x ∧ x ≤ p.duty) (hca : ∀ c ∈ claims, 0 ≤ c.alc ∧ c.alc ≤ 10737418240000) (pb : Nat) : ∀ (n : Nat) (pre post : List Claim) (rp rq : List Int) (tot alc duty : Int) (h : Hp), claims = pre ++ post → r = rp ++ rq → rp.length = pre.length → rq.length = post.length → post.length < n →
    h[pb]? = some (.arr 5 [encP p] true false) → (0 ≤ tot ∧ tot + post.length * 17592186044416 ≤ 4611686018427387904) → (0 ≤ alc ∧ alc + post.length * 17592186044416 ≤ 4611686018427387904) → (0 ≤ duty ∧ duty + post.length * 17592186044416 ≤ 4611686018427387904) → (∀ x ∈ pick p.id post rq, 0 ≤ x ∧ x ≤ p.duty) →
    ∃ h', f_law48_DrawbackSums_L5 Try.prog T D N x2 xr n v0 v1 v2 (.lst 1 b1 (r.map encI)) (I tot) (.ptr pb 0 0 1) (I alc) (I duty) v53 v54 v55 (.lst 3 b2 (claims.map encC)) (I claims.length) (I pre.length) h =
      x2 v0 v1 v2 (.lst 1 b1 (r.map encI)) (I (tot + (pick p.id post rq).sum)) (.ptr pb 0 0 1) (I (alc + claimedL post p.id)) (I (duty + (pick p.id post rq).sum)) v53 v54 v55 h' ∧ h'[pb]? = some (.arr 5 [encP p] true false) := by
  intro n
  induction n with
  | zero => intro pre post rp rq tot alc duty h _ _ _ _ h1; omega
  | succ n ih =>
    intro pre post rp rq tot alc duty h hc hrr hl hl2 hpn hpb ht ha hdu hxx
    have e0 : f_law48_DrawbackSums_L5 Try.prog T D N x2 xr (n + 1) v0 v1 v2 (.lst 1 b1 (r.map encI)) (I tot) (.ptr pb 0 0 1) (I alc) (I duty) v53 v54 v55 (.lst 3 b2 (claims.map encC)) (I claims.length) (I pre.length) h =
      f_law48_DrawbackSums_b5 Try.prog T D N (f_law48_DrawbackSums_L5 Try.prog T D N x2 xr n) x2 xr v0 v1 v2 (.lst 1 b1 (r.map encI)) (I tot) (.ptr pb 0 0 1) (I alc) (I duty) v53 v54 v55 (.lst 3 b2 (claims.map encC)) (I claims.length) (I pre.length) h := rfl
    rw [e0]
    cases post with
    | nil =>
      have hcl : claims = pre := by simpa using hc
      subst hcl
      have hrq : rq = [] := List.eq_nil_of_length_eq_zero (by simpa using hl2)
      subst hrq
      exact ⟨h, by simp [f_law48_DrawbackSums_b5, pick, claimedL], hpb⟩
    | cons c post =>
      cases rq with
      | nil => simp at hl2
      | cons x rq =>
        have hi : pre.length < claims.length := by rw [hc]; simp
        have hxc : claims[pre.length]? = some c := by rw [hc]; simp
        have hy : r[pre.length]? = some x := by rw [hrr, ← hl]; simp
        have hlt : ((pre.length : Int) < (claims.length : Int)) := by omega
        have hw : IntKind.i64.wrap ((pre.length : Int) + 1) = (((pre ++ [c]).length : Nat) : Int) := by rw [wrap64 (by omega) (by omega)]; simp
        have step := ih (pre ++ [c]) post (rp ++ [x]) rq
        have hcc := hca c (by rw [hc]; simp)
        simp only [List.length_cons] at ht ha hdu
        have hg := fun y : List AObj => get_app (g := y) hpb
        simp only [encP] at hg
        by_cases hcid : c.paid = p.id
        · rw [pick_cons, if_pos hcid] at hxx ⊢
          have hx1 := hxx x (by simp)
          have e3 : claimedL (c :: post) p.id = c.alc + claimedL post p.id := by simp [claimedL, hcid]
          rw [List.sum_cons, e3]
          have w1 : IntKind.i64.wrap (tot + x) = tot + x := wrap64 (by omega) (by omega)
          have w2 : IntKind.i64.wrap (alc + c.alc) = alc + c.alc := wrap64 (by omega) (by omega)
          have w3 : IntKind.i64.wrap (duty + x) = duty + x := wrap64 (by omega) (by omega)
          obtain ⟨h', r1, r2⟩ := step (tot + x) (alc + c.alc) (duty + x) (h ++ [.arr 3 [encC c] true false]) (by simpa using hc) (by simpa using hrr) (by simp [hl]) (by simpa using hl2) (by simpa using hpn) (get_app hpb) (by omega) (by omega) (by omega) (fun y hy => hxx y (by simp [hy]))
          refine ⟨h', ?_, r2⟩
          rw [show tot + (x + (pick p.id post rq).sum) = tot + x + (pick p.id post rq).sum by omega, show alc + (c.alc + claimedL post p.id) = alc + c.alc + claimedL post p.id by omega, show duty + (x + (pick p.id post rq).sum) = duty + x + (pick p.id post rq).sum by omega, ← r1]
          have y1 : ¬ x < 0 := by omega
          have y2 : ¬ p.duty < x := by omega
          simp [f_law48_DrawbackSums_b5, hlt, hxc, hy, encC, encI, boxE, hg, hcid, y1, y2, f_law48_DrawbackSums_j7, f_law48_DrawbackSums_j6, hw, w1, w2, w3]
        · rw [pick_cons, if_neg hcid] at hxx ⊢
          have e3 : claimedL (c :: post) p.id = claimedL post p.id := by simp only [claimedL]; rw [if_neg (fun e : p.id = c.paid => hcid e.symm)]; omega
          rw [e3]
          obtain ⟨h', r1, r2⟩ := step tot alc duty (h ++ [.arr 3 [encC c] true false]) (by simpa using hc) (by simpa using hrr) (by simp [hl]) (by simpa using hl2) (by simpa using hpn) (get_app hpb) (by omega) (by omega) (by omega) hxx
          refine ⟨h', ?_, r2⟩
          rw [← r1]
          simp [f_law48_DrawbackSums_b5, hlt, hxc, hy, encC, encI, boxE, hg, hcid, f_law48_DrawbackSums_j7, f_law48_DrawbackSums_j6, hw]
theorem leftS_mem {l : List Paid} {claims : List Claim} {limit : Int} {r : List Int} (hS : carryS l claims limit = .inr r) {p : Paid} (hp : paidL l p.id = some p) : leftS l claims limit p.id = (p.alc - claimedL claims p.id, p.duty - partOf p (claimedL claims p.id), 0) := by
  simp [leftS, hS, hp]
theorem sums_L2 {x0 : AV → AV → AV → AV → Hp → Option β} {xr : AV → Hp → Option β} {l : List Paid} {claims : List Claim} {limit : Int} {r : List Int} (hS : carryS l claims limit = .inr r) (hl : l.length ≤ 65) (hn : claims.length ≤ 65) (b1 b2 b3 : Bool) : ∀ (n : Nat) (pre post : List Paid) (tot : Int) (h : Hp), l = pre ++ post → post.length < n → (0 ≤ tot ∧ tot ≤ pre.length * 1099511627776) →
    ∃ h', f_law48_DrawbackSums_L2 Try.prog T d_law48_DrawbackSums NN x0 xr n (SL 5 encP b1 l) (SL 3 encC b2 claims) (I limit) (.lst 1 b3 (r.map encI)) (I tot) (SL 5 encP b1 l) (I l.length) (I pre.length) h =
      x0 (SL 5 encP b1 l) (SL 3 encC b2 claims) (I limit) (I (tot + (post.map fun p => (pick p.id claims r).sum).sum)) h' := by
  obtain ⟨h1, h2, h3, h4⟩ := carryS_inr hS
  obtain ⟨c1, c2, c3⟩ := checkP_ok h1
  obtain ⟨w1, w2, w3, w4, w5⟩ := carryS_within hS
  intro n
  induction n with
  | zero => intro pre post tot h _ h1; omega
  | succ n ih =>
    intro pre post tot h hc hpn ht
    have e0 : f_law48_DrawbackSums_L2 Try.prog T d_law48_DrawbackSums NN x0 xr (n + 1) (SL 5 encP b1 l) (SL 3 encC b2 claims) (I limit) (.lst 1 b3 (r.map encI)) (I tot) (SL 5 encP b1 l) (I l.length) (I pre.length) h =
      f_law48_DrawbackSums_b2 Try.prog T d_law48_DrawbackSums NN (f_law48_DrawbackSums_L2 Try.prog T d_law48_DrawbackSums NN x0 xr n) x0 xr (SL 5 encP b1 l) (SL 3 encC b2 claims) (I limit) (.lst 1 b3 (r.map encI)) (I tot) (SL 5 encP b1 l) (I l.length) (I pre.length) h := rfl
    rw [e0]
    cases post with
    | nil =>
      have hcl : l = pre := by simpa using hc
      subst hcl
      exact ⟨h, by simp [f_law48_DrawbackSums_b2]⟩
    | cons p post =>
      have hpm : p ∈ l := by rw [hc]; simp
      have hp := paidL_of_mem c3 hpm
      have hb := c2 p hpm
      have hbd := okP_bd hb
      have hwi := w2 _ _ hp
      obtain ⟨s1, s2, s3⟩ := runC_sum c2 hp claims [] r (within_nil c2) h4
      have hz : claimedL [] p.id = 0 := rfl
      rw [List.nil_append, hz, partOf_zero, Int.sub_zero] at s1
      have hm := partOf_mono p (claimedL claims p.id) p.alc hb (by omega) (by omega) (by omega)
      rw [partOf_all p hb] at hm
      have hi : pre.length < l.length := by rw [hc]; simp
      have hx : l[pre.length]? = some p := by rw [hc]; simp
      have hlt : ((pre.length : Int) < (l.length : Int)) := by omega
      have hw : IntKind.i64.wrap ((pre.length : Int) + 1) = (((pre ++ [p]).length : Nat) : Int) := by rw [wrap64 (by omega) (by omega)]; simp
      obtain ⟨h', k1, k2⟩ := sums_L5 (T := T) (D := d_law48_DrawbackSums) (N := NN)
        (x2 := fun w119_0 w119_1 w119_2 w119_7 w119_10 w119_12 w119_13 w119_14 w119_53 w119_54 w119_55 h => f_law48_DrawbackSums_j4 Try.prog T d_law48_DrawbackSums NN (f_law48_DrawbackSums_L2 Try.prog T d_law48_DrawbackSums NN x0 xr n) x0 xr w119_0 w119_1 w119_2 w119_7 w119_10 w119_12 w119_13 w119_14 w119_53 w119_54 w119_55 h) (xr := fun w120_6 h => xr w120_6 h)
        claims r hn b3 (b2 && claims.isEmpty) (SL 5 encP b1 l) (SL 3 encC b2 claims) (I limit) (SL 5 encP b1 l) (I l.length) (I pre.length) p (by omega) s2 (fun c hc => ⟨(s3 c hc).1, (s3 c hc).2.1⟩) h.length NN [] claims [] r tot (p.alc - claimedL claims p.id) (p.duty - partOf p (claimedL claims p.id)) (h ++ [.arr 5 [encP p] true false]) rfl rfl rfl w3 (by have := NN_ge; omega) (by simp) (by omega) (by omega) (by omega) s2
      rw [s1] at k1
      obtain ⟨h2', r1⟩ := ih (pre ++ [p]) post (tot + partOf p (claimedL claims p.id)) h' (by simpa using hc) (by simpa using hpn) (by rw [List.length_append]; simp; omega)
      refine ⟨h2', Eq.trans ?_ (k1.trans (Eq.trans ?_ (r1.trans ?_)))⟩
      · have g1 := G_slices_Clone_Paid_val l b1 (by omega)
        have g2 := G_slices_Clone_Claim_val claims b2 (by omega)
        have g3 := G_drawback_Left_val l claims (b1 && l.isEmpty) (b2 && claims.isEmpty) limit p.id
        rw [leftS_mem hS hp] at g3
        have y1 : ¬ p.alc - claimedL claims p.id < 0 := by omega
        have y2 : ¬ p.duty - partOf p (claimedL claims p.id) < 0 := by omega
        simp [f_law48_DrawbackSums_b2, hlt, hx, encP, boxE, effD_y, disjAll, disj2, wrOf, idsOf, callE_F, g1, g2, g3, y1, y2]
      · have y3 : p.alc - claimedL claims p.id + claimedL claims p.id = p.alc := by omega
        have y4 : p.duty - partOf p (claimedL claims p.id) + partOf p (claimedL claims p.id) = p.duty := by omega
        have k2' := k2
        simp only [encP] at k2'
        simp only [f_law48_DrawbackSums_j4, y3, y4]
        simp [k2', f_law48_DrawbackSums_j3, hw]
      · rw [List.map_cons, List.sum_cons, s1]
        congr 2
        omega
end
end Go.AM
