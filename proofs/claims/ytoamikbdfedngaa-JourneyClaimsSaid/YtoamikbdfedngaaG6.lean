import Derived.Test.YtoamikbdfedngaaG5
/- journey: JourneyClaims. -/
namespace Go.AM
open Go.Proofs
set_option linter.unusedVariables false
set_option linter.unusedSimpArgs false
set_option linter.constructorNameAsVariable false
set_option maxRecDepth 20000
section
theorem F_slices_Clone_Allowance_val (l : List Allow) (b : Bool) (hl : l.length < 1000000) (h : Hp) : F_slices_Clone_Allowance [SL 4 encA b l] h = some (SL 4 encA b l, h) := by
  refine (F_slices_Clone_Allowance_run (v := if b && l.isEmpty then nilS else SL 4 encA b l) rfl ?_ h).trans ?_
  · by_cases hb : (b && l.isEmpty) = true
    · simp [f_slices_Clone_Allowance, hb]
    · have hb' : (b && l.isEmpty) = false := by simpa using hb
      have hle : l.length * 32 ≤ 140737488355328 := by omega
      have h2 : ((l.map encA).all fun e => e.length == 4) = true := by simp [encA]
      have h3 : okE false (l.map encA) = true := okE_map (by intro x; simp [encA])
      simp [f_slices_Clone_Allowance, hb', bsE, fillS, appE, readSl, hle, h2, ap]
      rw [cvt_whole rfl (by simp) (by simp) h3, SL, hb']
  · by_cases hb : (b && l.isEmpty) = true
    · obtain ⟨rfl, hl0⟩ := Bool.and_eq_true_iff.1 hb
      have : l = [] := by simpa using hl0
      subst this
      rfl
    · rw [if_neg hb]
      rfl
end
theorem F_law45_short_ex (l : List Leg) (b : Bool) (hl : l.length < 1000000) : ∃ s : Bool, ∀ h, F_law45_short [.lst 5 b (l.map encL)] h = some (B s, h) := by
  have ff := F_ref45_Few_val l b
  cases hf : fewL l.length with
  | false =>
    rw [hf] at ff
    exact ⟨false, fun h => F_law45_short_run rfl (by simp [f_law45_short, ff]) h⟩
  | true =>
    rw [hf] at ff
    cases hll : l with
    | nil =>
      rw [hll] at ff
      simp at ff
      exact ⟨true, fun h => F_law45_short_run rfl (by simp [f_law45_short, ff]) h⟩
    | cons c tl =>
      rw [← hll]
      have hl0 : l.length ≠ 0 := by rw [hll]; simp
      have hc0 : l[0]? = some c := by rw [hll]; rfl
      obtain ⟨d, hd⟩ : ∃ d, l.getLast? = some d := by
        cases hx : l.getLast? with
        | none => rw [List.getLast?_eq_none_iff] at hx; rw [hx] at hll; simp at hll
        | some d => exact ⟨d, rfl⟩
      have hdi : l[l.length - 1]? = some d := by rw [← hd, List.getLast?_eq_getElem?]
      have w2 : IntKind.i64.wrap ((l.length : Int) - 1) = (l.length : Int) - 1 := wrap64 (by omega) (by omega)
      have hz : ((l.length : Int) == 0) = false := by simp; exact fun e => hl0 (by rw [e]; rfl)
      have i0 : ∀ (k : Go.AM.K AV), iaK 5 (.lst 5 b (l.map encL)) (I 0) k = k (.ep (encL c) 0) := fun k => iaK_at 0 rfl hc0 k
      have i1 : ∀ (k : Go.AM.K AV), iaK 5 (.lst 5 b (l.map encL)) (I ((l.length : Int) - 1)) k = k (.ep (encL d) 0) := fun k => iaK_at (l.length - 1) (by omega) hdi k
      have ln : ∀ k : Go.AM.K AV, lenK (.lst 5 b (l.map encL)) k = k (I l.length) := fun k => by simp
      simp only [encL] at i0 i1
      by_cases q1 : d.day ≤ 600
      · refine ⟨true, fun h => F_law45_short_run (a0 := .lst 5 b (l.map encL)) rfl ?_ h⟩
        simp only [nrm, nrmC]
        generalize l.map encL = L at *
        generalize (l.length : Int) = m at *
        simp [f_law45_short, ff, ln, hz, w2, i0, i1, q1]
      · by_cases q2 : IntKind.i64.wrap (d.day - 600) ≤ c.day
        · refine ⟨true, fun h => F_law45_short_run (a0 := .lst 5 b (l.map encL)) rfl ?_ h⟩
          simp only [nrm, nrmC]
          generalize l.map encL = L at *
          generalize (l.length : Int) = m at *
          simp [f_law45_short, ff, ln, hz, w2, i0, i1, q1, q2]
        · refine ⟨false, fun h => F_law45_short_run (a0 := .lst 5 b (l.map encL)) rfl ?_ h⟩
          simp only [nrm, nrmC]
          generalize l.map encL = L at *
          generalize (l.length : Int) = m at *
          simp [f_law45_short, ff, ln, hz, w2, i0, i1, q1, q2]
theorem allowed_none (cls alc frm to : Int) (h : 0 ≤ alc) : (allowedS [] cls alc frm to).1 = 0 := by
  have hs : sumA [] cls frm to = 0 := by
    have := sumN_const (rateOn [] cls) 0 (to - frm).toNat frm (fun e _ _ => rfl)
    unfold sumA
    rw [this]; simp
  unfold allowedS
  split
  · rfl
  · split
    · rfl
    · split
      · rfl
      · rw [hs]; simp; omega
/-- What Claim tells. -/
theorem claim_plain (l : List Leg) (t : List Allow) :
    ((claimS l t).1 = zeroO ∧ ((claimS l t).2 = 1 ∨ ((claimS l t).2 = 11 ∧ okS l = true ∧ (runS l).1.endd = false))) ∨
    (∃ (j : Jny) (ev df : Int), runS l = (j, -1, 0) ∧ j.endd = true ∧ (claimS l t) = (⟨ev, 0, df, 0⟩, 0) ∧ (claimS l []) = (⟨0, 0, j.lost, 0⟩, 0) ∧ 0 ≤ ev ∧ 0 ≤ df ∧ ev + df = j.lost ∧ j.lost ≤ 10737418240000) := by
  cases hr : okS l with
  | false => left; simp [claimS, hr]
  | true =>
    cases hc : rightA t with
    | false => left; simp [claimS, hr, hc]
    | true =>
      cases he : (runS l).1.endd with
      | false => left; simp [claimS, hr, hc, he]
      | true =>
        right
        have hinv := okL_inv l _ _ _ invZ (okS_ok hr).2
        have hrun := okS_run hr
        unfold claimS
        rw [hr, hc, show rightA [] = true from rfl]
        rw [hrun] at he ⊢
        dsimp only at he ⊢
        rw [he]
        obtain ⟨s1, s2, s3, s4, s5, s6, s7, s8⟩ := hinv
        have s7' := s7 he
        generalize l.foldl actL zeroJ = j at *
        have h0 : 0 ≤ j.dep - j.spl := by omega
        have ab := allowedS_bd (t := t) (cls := 9) (frm := (l.head?.map (·.day)).getD 0) (to := (l.getLast?.map (·.day)).getD 0) h0
        have an := allowed_none 9 (j.dep - j.spl) ((l.head?.map (·.day)).getD 0) ((l.getLast?.map (·.day)).getD 0) h0
        rw [an]
        generalize (allowedS t 9 (j.dep - j.spl) ((l.head?.map (·.day)).getD 0) ((l.getLast?.map (·.day)).getD 0)).1 = n at *
        have e1 : ¬ j.dep - j.spl < j.arr := by omega
        refine ⟨j, min n (j.dep - j.spl - j.arr), j.dep - j.spl - j.arr - min n (j.dep - j.spl - j.arr), rfl, he, ?_, ?_, by omega, by omega, by omega, by omega⟩
        · simp [lossL, e1]; omega
        · simp [lossL, e1]; omega
set_option maxHeartbeats 8000000 in
theorem claims_law (l : List Leg) (b : Bool) (t : List Allow) (b2 : Bool) : F_law45_JourneyClaims [SL 5 encL b l, SL 4 encA b2 t] [] = some (B true, []) := by
  refine F_law45_JourneyClaims_run rfl ?_ []
  have ln1 : ∀ (b : Bool) (k : Go.AM.K AV), lenK (.lst 5 b (l.map encL)) k = k (I l.length) := fun b k => by simp
  have ln2 : ∀ (b : Bool) (k : Go.AM.K AV), lenK (.lst 4 b (t.map encA)) k = k (I t.length) := fun b k => by simp
  by_cases h1 : 16 < l.length
  · have h1' : (16 : Int) < (l.length : Int) := by omega
    simp (maxSteps := 10000000) [f_law45_JourneyClaims, F_law45_awake_val, h1']
  have h1' : ¬ (16 : Int) < (l.length : Int) := by omega
  obtain ⟨s, fs⟩ := F_law45_short_ex l (b && l.isEmpty) (by omega)
  cases s with
  | false => simp (maxSteps := 10000000) [f_law45_JourneyClaims, F_law45_awake_val, h1', fs]
  | true =>
    by_cases h2 : 20 < t.length
    · have h2' : (20 : Int) < (t.length : Int) := by omega
      simp (maxSteps := 10000000) [f_law45_JourneyClaims, F_law45_awake_val, h1', h2', fs]
    have h2' : ¬ (20 : Int) < (t.length : Int) := by omega
    have c0 := F_slices_Clone_Leg_val l b (by omega)
    have c1 := F_slices_Clone_Allowance_val t b2 (by omega)
    have r1 := F_journey_Run_val l (b && l.isEmpty) (by omega)
    have k1 := F_journey_Claim_val l t (b && l.isEmpty) (b2 && t.isEmpty) (by omega)
    have k2 : ∀ h, F_journey_Claim [.lst 5 (b && l.isEmpty) (l.map encL), nilS] h = some (.tup [.agg (encO (claimS l []).1), I (claimS l []).2], h) := fun h => F_journey_Claim_val l [] (b && l.isEmpty) true (by omega) h
    rcases claim_plain l t with ⟨p1, p2⟩ | ⟨j, ev, df, p1, p2, p3, p4, p5, p6, p7, p8⟩
    · rw [p1] at k1
      rcases p2 with p2 | ⟨p2, p3, p4⟩
      · rw [p2] at k1
        simp only [encO, zeroO] at k1
        simp only [tupR, encJ] at r1
        by_cases f0 : (runS l).2.2 = 0
        · rw [f0] at r1
          cases e0 : (runS l).1.endd <;> rw [e0] at r1 <;> simp (maxSteps := 10000000) [f_law45_JourneyClaims, F_law45_awake_val, h1', h2', fs, c0, c1, r1, k1, boxE, stE, ap, buildK, fillA]
        · have f0' : ((runS l).2.2 == 0) = false := by simpa using f0
          simp (maxSteps := 10000000) [f_law45_JourneyClaims, F_law45_awake_val, h1', h2', fs, c0, c1, r1, k1, boxE, stE, ap, buildK, fillA, f0']
      · rw [p2] at k1
        have f0 : (runS l).2.2 = 0 := by simpa [okS] using p3
        simp only [encO, zeroO] at k1
        simp only [tupR, encJ] at r1
        rw [f0, p4] at r1
        simp (maxSteps := 10000000) [f_law45_JourneyClaims, F_law45_awake_val, h1', h2', fs, c0, c1, r1, k1, boxE, stE, ap, buildK, fillA]
    · rw [p3] at k1
      rw [p4] at k2
      rw [p1] at r1
      have w1 : IntKind.i64.wrap (ev + df) = j.lost := by rw [wrap64 (by omega) (by omega)]; exact p7
      have i1 : (0 : Int) ≤ ev := p5
      have i2 : (0 : Int) ≤ df := p6
      simp only [encO] at k1 k2
      simp only [tupR, encJ] at r1
      rw [p2] at r1
      simp (maxSteps := 10000000) [f_law45_JourneyClaims, F_law45_awake_val, h1', h2', fs, c0, c1, r1, k1, k2, boxE, stE, ap, buildK, fillA, w1, i1, i2]
end Go.AM

/- journey: JourneyTransits. -/
namespace Go.AM
open Go.Proofs
set_option linter.unusedVariables false
set_option linter.unusedSimpArgs false
set_option linter.constructorNameAsVariable false
set_option maxRecDepth 20000
theorem ref_Transit_L4 {β : Type} {N : Nat} {D : DTab} {x0 : AV → AV → Hp → Option β} {xr : AV → AV → Hp → Option β} (ls : List NL) (b : Bool) (v1 : AV) (hl : ls.length < 1000) (hb : ∀ p ∈ ls, p.2.length < 1000000) (h : Hp) : ∀ (n : Nat) (pre post : List NL), ls = pre ++ post → post.length < n →
    f_ref45_Transit_L4 Try.prog t_ref45_Transit D N x0 xr n (.lst 1 b (ls.map encN)) v1 (I pre.length) h = if (post.any fun p => !okS p.2) = true then xr (I 0) (I 1) h else x0 (.lst 1 b (ls.map encN)) v1 h := by
  intro n
  induction n with
  | zero => intro pre post _ h2; omega
  | succ n ih =>
    intro pre post hc hn
    show f_ref45_Transit_b4 Try.prog t_ref45_Transit D N (f_ref45_Transit_L4 Try.prog t_ref45_Transit D N x0 xr n) x0 xr _ _ _ h = _
    cases post with
    | nil =>
      have : ls = pre := by simpa using hc
      subst this
      simp [f_ref45_Transit_b4]
    | cons c post =>
      have hi : pre.length < ls.length := by rw [hc]; simp
      have hci : ls[pre.length]? = some c := by rw [hc]; simp
      have hcm : c ∈ ls := by rw [hc]; simp
      have hlt : ((pre.length : Int) < (ls.length : Int)) := by omega
      have hw : IntKind.i64.wrap ((pre.length : Int) + 1) = (((pre ++ [c]).length : Nat) : Int) := by rw [wrap64 (by omega) (by omega)]; simp
      have ic : ∀ k : Go.AM.K β, iaK 1 (.lst 1 b (ls.map encN)) (I pre.length) k = k (.ep (encN c) 0) := fun k => iaK_at pre.length rfl hci k
      have hlen : lenK (.lst 1 b (ls.map encN)) = fun k : Go.AM.K β => k (I ls.length) := by funext k; simp
      have fa := F_ref45_right_val c.2 c.1 (hb c hcm)
      have step := ih (pre ++ [c]) post (by simpa using hc) (by simpa using hn)
      have ldc : ∀ k : Go.AM.K β, ldK 1 false (.ep (encN c) 0) h k = k (.lst 5 c.1 (c.2.map encL)) := fun k => by simp
      rw [List.any_cons]
      simp only [f_ref45_Transit_b4, hlen, arithK_lss, hlt, decide_true, condK_bool, if_true, ic]
      rw [ldc, t_ref45_Transit_33, callK_F, fa]
      cases okS c.2 with
      | true => rw [Bool.not_true, Bool.false_or, ← step]; simp [hw]
      | false => simp
theorem ref_Transit_L3 {β : Type} {N : Nat} {D : DTab} {x0 : AV → Hp → Option β} (ls : List NL) (b : Bool) (day : Int) (hl : ls.length < 1000) (hb : ∀ p ∈ ls, p.2.length < 1000000) (hok : ∀ p ∈ ls, okS p.2 = true) (h : Hp) : ∀ (n : Nat) (pre post : List NL) (acc : Int), ls = pre ++ post → post.length < n → 0 ≤ acc ∧ acc ≤ 10737418240000 * pre.length →
    f_ref45_Transit_L3 Try.prog t_ref45_Transit D N x0 n (.lst 1 b (ls.map encN)) (I day) (I acc) (I pre.length) h = x0 (I (acc + sumT day post)) h := by
  intro n
  induction n with
  | zero => intro pre post acc _ h2; omega
  | succ n ih =>
    intro pre post acc hc hn ha
    show f_ref45_Transit_b3 Try.prog t_ref45_Transit D N (f_ref45_Transit_L3 Try.prog t_ref45_Transit D N x0 n) x0 _ _ _ _ h = _
    cases post with
    | nil =>
      have : ls = pre := by simpa using hc
      subst this
      simp [f_ref45_Transit_b3, sumT]
    | cons c post =>
      have hi : pre.length < ls.length := by rw [hc]; simp
      have hci : ls[pre.length]? = some c := by rw [hc]; simp
      have hcm : c ∈ ls := by rw [hc]; simp
      have hlt : ((pre.length : Int) < (ls.length : Int)) := by omega
      have hw : IntKind.i64.wrap ((pre.length : Int) + 1) = (((pre ++ [c]).length : Nat) : Int) := by rw [wrap64 (by omega) (by omega)]; simp
      have ic : ∀ k : Go.AM.K β, iaK 1 (.lst 1 b (ls.map encN)) (I pre.length) k = k (.ep (encN c) 0) := fun k => iaK_at pre.length rfl hci k
      have hlen : lenK (.lst 1 b (ls.map encN)) = fun k : Go.AM.K β => k (I ls.length) := by funext k; simp
      have fa := F_ref45_at_val c.2 c.1 day (hok c hcm) (hb c hcm)
      have tb := tra_bd (hok c hcm) day
      have w1 : IntKind.i64.wrap (acc + (atL c.2 day).tra) = acc + (atL c.2 day).tra := wrap64 (by omega) (by omega)
      have step := ih (pre ++ [c]) post (acc + (atL c.2 day).tra) (by simpa using hc) (by simpa using hn) (by simp; omega)
      rw [sumT, ← Int.add_assoc, ← step]
      simp only [f_ref45_Transit_b3, hlen, arithK_lss, hlt, decide_true, condK_bool, if_true, ic]
      have ldc : ∀ k : Go.AM.K β, ldK 1 false (.ep (encN c) 0) h k = k (.lst 5 c.1 (c.2.map encL)) := fun k => by simp
      have f4 : ∀ k : Go.AM.K β, fldK 1 false 4 (.agg (encJ (atL c.2 day))) k = k (I (atL c.2 day).tra) := fun k => rfl
      rw [ldc, t_ref45_Transit_35, callK_F, fa]
      simp only [f4, arithK_add, w1, hw]
theorem F_ref45_Transit_val (ls : List NL) (b : Bool) (day : Int) (hl : ls.length < 1000) (hb : ∀ p ∈ ls, p.2.length < 1000000) (h : Hp) : F_ref45_Transit [.lst 1 b (ls.map encN), I day] h = some (.tup [I (transS ls day).1, I (transS ls day).2], h) := by
  refine F_ref45_Transit_run (a0 := .lst 1 b (ls.map encN)) (a1 := I day) rfl ?_ h
  simp only [nrm, nrmC]
  unfold transS
  have ln : ∀ k : Go.AM.K AV, lenK (.lst 1 b (ls.map encN)) k = k (I ls.length) := fun k => by simp
  by_cases h1 : 16 < ls.length
  · have h1' : (16 : Int) < (ls.length : Int) := by omega
    rw [if_pos h1]
    simp only [f_ref45_Transit, ln]
    simp [h1']
  · have h1' : ¬ (16 : Int) < (ls.length : Int) := by omega
    rw [if_neg h1]
    have L4 := ref_Transit_L4 (N := NN) (D := d_ref45_Transit) (x0 := fun w24_0 w24_1 h => f_ref45_Transit_j1 Try.prog t_ref45_Transit d_ref45_Transit NN (fun v g => cvt false g v) w24_0 w24_1 h) (xr := fun w25_4 w25_5 h => cvt false h (.tup [w25_4, w25_5])) ls b (I day) hl hb [] NN [] ls rfl (by have := NN_ge; omega)
    have e0 : f_ref45_Transit Try.prog t_ref45_Transit d_ref45_Transit NN (fun v g => cvt false g v) (.lst 1 b (ls.map encN)) (I day) [] = _ := Eq.trans (by
      simp only [f_ref45_Transit, ln]
      simp only [arithK_gtr, condK_bool]
      rw [if_neg (by simpa using h1')]
      rfl) L4
    rw [e0]
    cases h2 : (ls.any fun p => !okS p.2) with
    | true => simp
    | false =>
      have hok : ∀ p ∈ ls, okS p.2 = true := by simpa using h2
      rw [if_neg (by simp), if_neg (by simp)]
      cases h3 : win day 0 100000
      · simp [f_ref45_Transit_j1, F_ref31_Day_val', h3]
      · have L := ref_Transit_L3 (N := NN) (D := d_ref45_Transit) (x0 := fun w17_6 h => f_ref45_Transit_j2 Try.prog t_ref45_Transit d_ref45_Transit NN (fun v g => cvt false g v) w17_6 h) ls b day hl hb hok [] NN [] ls 0 rfl (by have := NN_ge; omega) (by simp)
        generalize ls.map encN = LL at *
        simp [f_ref45_Transit_j1, F_ref31_Day_val', h3]
        refine L.trans ?_
        simp [f_ref45_Transit_j2]
theorem F_law45_Transits_1_val (l : List Leg) (b : Bool) (h : Hp) : F_law45_JourneyTransits_1 [.lst 5 b (l.map encL)] h = some (B (!fewL l.length), h) := F_law45_JourneyTransits_1_run rfl (by simp [f_law45_JourneyTransits_1, F_ref45_Few_val l b]) h
theorem F_Contains_few (ls : List NL) (hl : ls.length < 1000) (b : Bool) (h : Hp) : F_slices_ContainsFunc_Leg__law45_JourneyTransits_1 [.lst 1 b (ls.map encN), .fn 10 []] h = some (B (ls.any fun p => !fewL p.2.length), h) := by
  have e : ∀ h, F_slices_IndexFunc_Leg__law45_JourneyTransits_1 [.lst 1 b (ls.map encN), .fn 10 []] h = some (I (match ls.findIdx? (fun p => !fewL p.2.length) with | some j => (j : Int) | none => -1), h) :=
    F_slices_IndexFunc_Leg__law45_JourneyTransits_1_run rfl (by
      simp only [nrm, nrmC]
      rw [IndexFunc_Leg_K (p := fun p => !fewL p.2.length) (by have := NN_ge; omega) NN_lt (fun x hx k => by simp [F_law45_Transits_1_val x.2 x.1])]
      rfl)
  refine F_slices_ContainsFunc_Leg__law45_JourneyTransits_1_run rfl ?_ h
  simp only [nrm, nrmC, f_slices_ContainsFunc_Leg, t_slices_ContainsFunc_Leg__law45_JourneyTransits_1_28, callK_F, e]
  have : (ls.any fun p => !fewL p.2.length) = (ls.findIdx? (fun p => !fewL p.2.length)).isSome := by rw [List.findIdx?_isSome]
  rw [this]
  cases ls.findIdx? (fun p => !fewL p.2.length) <;> simp
end Go.AM

/- journey: JourneyTransits, the law. -/
namespace Go.AM
open Go.Proofs
set_option linter.unusedVariables false
set_option linter.unusedSimpArgs false
set_option linter.constructorNameAsVariable false
set_option maxRecDepth 20000
theorem has_LegsN {cs : List AV} (h : HasTs [.sl [.int .i64, .int .i64, .int .i64, .int .i64, .int .i64]] cs) : ∃ p : NL, cs = encN (p.1 && p.2.isEmpty, p.2) := by
  simp only [HasTs] at h
  obtain ⟨a, _, rfl, ha, rfl⟩ := h
  obtain ⟨l, b, rfl⟩ := has_Legs ha
  exact ⟨(b, l), rfl⟩
theorem has_LegsS {a : AV} (h : HasT (.sl [.sl [.int .i64, .int .i64, .int .i64, .int .i64, .int .i64]]) a) : ∃ (l : List NL) (b : Bool), a = SL 1 (fun p : NL => encN (p.1 && p.2.isEmpty, p.2)) b l := has_list (fun _ h => has_LegsN h) h
theorem law_Transits_L2 {β : Type} {N : Nat} {D : DTab} {x0 : AV → AV → AV → Hp → Option β} (ls : List NL) (b : Bool) (v0 v1 : AV) (hl : ls.length < 1000) (hb : ∀ p ∈ ls, p.2.length < 1000000) (hn : ∀ p ∈ ls, p.1 = (p.1 && p.2.isEmpty)) : ∀ (n : Nat) (pre post : List NL) (v : AV) (h : Hp), ls = pre ++ post → post.length < n → Gro 1 encN h v pre →
    ∃ v' h', f_law45_JourneyTransits_L2 Try.prog t_law45_JourneyTransits D N x0 n v0 v1 v (.lst 1 b (ls.map encN)) (I ls.length) (I pre.length) h = x0 v0 v1 v' h' ∧ Gro 1 encN h' v' ls := by
  intro n
  induction n with
  | zero => intro pre post v h _ h2; omega
  | succ n ih =>
    intro pre post v h hc hpn G
    have e0 : f_law45_JourneyTransits_L2 Try.prog t_law45_JourneyTransits D N x0 (n + 1) v0 v1 v (.lst 1 b (ls.map encN)) (I ls.length) (I pre.length) h = f_law45_JourneyTransits_b2 Try.prog t_law45_JourneyTransits D N (f_law45_JourneyTransits_L2 Try.prog t_law45_JourneyTransits D N x0 n) x0 v0 v1 v (.lst 1 b (ls.map encN)) (I ls.length) (I pre.length) h := rfl
    rw [e0]
    cases post with
    | nil =>
      have : ls = pre := by simpa using hc
      subst this
      exact ⟨v, h, by simp [f_law45_JourneyTransits_b2], G⟩
    | cons c post =>
      have hi : pre.length < ls.length := by rw [hc]; simp
      have hci : ls[pre.length]? = some c := by rw [hc]; simp
      have hcm : c ∈ ls := by rw [hc]; simp
      have hlt : ((pre.length : Int) < (ls.length : Int)) := by omega
      have hw : IntKind.i64.wrap ((pre.length : Int) + 1) = (((pre ++ [c]).length : Nat) : Int) := by rw [wrap64 (by omega) (by omega)]; simp
      have ic : ∀ k : Go.AM.K β, iaK 1 (.lst 1 b (ls.map encN)) (I pre.length) k = k (.ep (encN c) 0) := fun k => iaK_at pre.length rfl hci k
      have fc : ∀ h, F_slices_Clone_Leg [.lst 5 c.1 (c.2.map encL)] h = some (.lst 5 c.1 (c.2.map encL), h) := fun h => by
        have := F_slices_Clone_Leg_val c.2 c.1 (hb c hcm) h
        unfold SL at this
        rw [← hn c hcm] at this
        exact this
      obtain ⟨v', h3, k1, k2, k3, k4, k5⟩ := (G.app [.arr 1 [encN c] true false]).snoc β (by_ := 24) (m := h.length) (z := c) (b := true) (by simp) (fun e => by have := G.lt e; omega) (by intro y _; rfl) (by omega)
      obtain ⟨v2, h2, r1, r2⟩ := ih (pre ++ [c]) post v' h3 (by simpa using hc) (by simpa using hpn) k2
      refine ⟨v2, h2, ?_, r2⟩
      rw [← r1]
      have ldc : ∀ (g : Hp) (k : Go.AM.K β), ldK 1 false (.ep (encN c) 0) g k = k (.lst 5 c.1 (c.2.map encL)) := fun g k => by simp
      simp only [f_law45_JourneyTransits_b2, arithK_lss, hlt, decide_true, condK_bool, if_true, ic, ldc]
      rw [t_law45_JourneyTransits_12, callK_F, fc]
      have bs : ∀ k : AV → Hp → Option β, effK (bsE 1 [nilS] 1 [(0, .lst 5 c.1 (c.2.map encL))] h.length) h k = k (.sl 1 h.length 0 1 1 true) (h ++ [.arr 1 [encN c] true false]) := fun k => by
        simp [bsE, fillS, ap]
      dsimp only
      rw [bs]
      simp only [List.length_append, List.length_singleton] at k1 ⊢
      rw [k1]
      simp only [arithK_add, hw, List.length_append, List.length_singleton]
theorem Gro_cvt {h : Hp} {v : AV} {ls : List NL} (O : Gro 1 encN h v ls) : ∃ w, cvt false h v = some w ∧ nrm (.l 1) w = .lst 1 ls.isEmpty (ls.map encN) := by
  rcases O with ⟨rfl, rfl⟩ | ⟨h1, k, rfl, h2⟩
  · exact ⟨nilS, rfl, rfl⟩
  · have he : ls.isEmpty = false := by simpa using h1
    refine ⟨.lst 1 false (ls.map encN), cvt_whole h2 (by simp) (by simp) (okE_map fun x => rfl), ?_⟩
    rw [he]; rfl
theorem transits_law (ls0 : List NL) (b : Bool) (day : Int) : F_law45_JourneyTransits [SL 1 (fun p : NL => encN (p.1 && p.2.isEmpty, p.2)) b ls0, I day] [] = some (B true, []) := by
  obtain ⟨ls, hls⟩ : ∃ ls : List NL, ls = ls0.map fun p => (p.1 && p.2.isEmpty, p.2) := ⟨_, rfl⟩
  have e1 : (SL 1 (fun p : NL => encN (p.1 && p.2.isEmpty, p.2)) b ls0) = .lst 1 (b && ls0.isEmpty) (ls.map encN) := by
    unfold SL; rw [hls, List.map_map]; rfl
  have hn : ∀ p ∈ ls, p.1 = (p.1 && p.2.isEmpty) := by
    rw [hls]
    intro p hp
    obtain ⟨q, _, rfl⟩ := List.mem_map.1 hp
    cases q.1 <;> cases q.2.isEmpty <;> simp_all
  rw [e1]
  generalize (b && ls0.isEmpty) = b0
  clear e1 hls
  refine F_law45_JourneyTransits_run (a0 := .lst 1 b0 (ls.map encN)) (a1 := I day) rfl ?_ []
  simp only [nrm, nrmC]
  have ln : ∀ k : Go.AM.K AV, lenK (.lst 1 b0 (ls.map encN)) k = k (I ls.length) := fun k => by simp
  by_cases h1 : 4 < ls.length ∧ ls.length ≠ 17
  · have h1' : (4 : Int) < (ls.length : Int) := by omega
    have h2' : ((ls.length : Int) == 17) = false := by simp; omega
    simp only [f_law45_JourneyTransits, ln]
    generalize ls.map encN = L at *
    simp (maxSteps := 10000000) [F_law45_awake_val, h1', h2']
  · have hl : ls.length ≤ 17 := by omega
    have fc := F_Contains_few ls (by omega) b0
    have g1 : ∀ (H : Hp) (K : AV → Hp → Option AV), (arithK .gtr (I ls.length) (I 4) fun x5 => grpK true x5 H (fun k6 => eqK Try.prog true 3 (I ls.length) (I 17) H fun x8 => k6 x8 H) K) = K (B false) H := by
      intro H K
      by_cases q : 4 < ls.length
      · have q' : (4 : Int) < (ls.length : Int) := by omega
        have q2 : ((ls.length : Int) == 17) = true := by simp; omega
        simp [q', q2]
      · have q' : ¬ (4 : Int) < (ls.length : Int) := by omega
        simp [q']
    cases h2 : (ls.any fun p => !fewL p.2.length) with
    | true =>
      rw [h2] at fc
      simp only [f_law45_JourneyTransits, ln]
      rw [t_law45_JourneyTransits_8, callK_F, F_law45_awake_val]
      simp only [notK_bool, Bool.not_true, condK_bool, Bool.false_eq_true, if_false]
      rw [g1]
      generalize ls.map encN = L at *
      simp [fc]
    | false =>
      rw [h2] at fc
      have hb : ∀ p ∈ ls, p.2.length < 1000000 := fun p hp => by
        have : fewL p.2.length = true := by
          rw [List.any_eq_false] at h2
          simpa using h2 p hp
        have := fewL_bd this
        omega
      obtain ⟨v', h', k1, k2⟩ := law_Transits_L2 (N := NN) (D := d_law45_JourneyTransits) (x0 := fun w40_0 w40_1 w40_5 h => f_law45_JourneyTransits_j1 Try.prog t_law45_JourneyTransits d_law45_JourneyTransits NN (fun v g => cvt false g v) w40_0 w40_1 w40_5 h) ls b0 (.lst 1 b0 (ls.map encN)) (I day) (by omega) hb hn NN [] ls nilS [] rfl (by have := NN_ge; omega) .nil
      obtain ⟨w, q1, q2⟩ := Gro_cvt k2
      have ft : F_journey_Transit [v', I day] h' = some (.tup [I (transS ls day).1, I (transS ls day).2], h') := F_journey_Transit_own (a0 := w) (a1 := I day) (by simp [Go.AM.cvts, q1]) (fun st => by rw [q2]; exact Transit_run ls ls.isEmpty day (by omega) hb st)
      have fr := F_ref45_Transit_val ls b0 day (by omega) hb h'
      simp only [f_law45_JourneyTransits, ln]
      rw [t_law45_JourneyTransits_8, callK_F, F_law45_awake_val]
      simp only [notK_bool, Bool.not_true, condK_bool, Bool.false_eq_true, if_false]
      rw [g1]
      have tail : f_law45_JourneyTransits_j1 Try.prog t_law45_JourneyTransits d_law45_JourneyTransits NN (fun v g => cvt false g v) (.lst 1 b0 (ls.map encN)) (I day) v' h' = some (B true) := by
        generalize ls.map encN = L at *
        simp [f_law45_JourneyTransits_j1, ft, fr]
      rw [tail] at k1
      generalize ls.map encN = L at *
      simp [fc]
      exact k1
end Go.AM
