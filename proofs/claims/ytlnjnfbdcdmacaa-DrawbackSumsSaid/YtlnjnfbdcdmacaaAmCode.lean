import Derived.Test.YtlnjnfbdcdmacaaAmExec
namespace Go.AM
open Go.RowKit
set_option linter.unusedVariables false
set_option linter.unusedSimpArgs false
variable {P : Program} {μ μ' : Mu} {h h' : Hp} {w w' : World} {β : Type} {ks : List Nat} {np nt : Nat}
/-- A frame and what it holds. -/
structure RFit (ks : List Nat) (np nt : Nat) (μ : Mu) (h : Hp) (t : Tm) (e : Env) (a : Act) : Prop where
  size : a.tmps.size = nt
  defers : a.defers = []
  val : ∀ i, VR μ h (look t e i) (a.eval (.tmp i))
  keep : ∀ i, ks.contains i = true ∨ i < np → t i = look t e i
  low : ∀ i, ks.contains i = false → np ≤ i → t i = .u
abbrev Fit (ks : List Nat) (np nt : Nat) (μ : Mu) (h : Hp) (t : Tm) (a : Act) : Prop := RFit ks np nt μ h t [] a
def dstOk (ks : List Nat) (np nt : Nat) (d : Option Nat) : Bool := match d with | some d => decide (d < nt) && (ks.contains d || decide (np ≤ d)) | none => true
theorem look_nil (t : Tm) (i : Nat) : look t [] i = t i := rfl
theorem look_cons (t : Tm) (d : Nat) (v : AV) (e : Env) (i : Nat) : look t ((d, v) :: e) i = if i = d then v else look t e i := rfl
theorem look_upd (t : Tm) (d : Nat) (v : AV) : ∀ (e : Env) (i : Nat), i ≠ d → look (upd t d v) e i = look t e i
  | [], i, hi => by simp [look, upd, hi]
  | (j, x) :: e, i, hi => by simp only [look_cons]; split; · rfl
                             · exact look_upd t d v e i hi
theorem eval_put (a : Act) (d : Nat) (u : Value) (hd : d < a.tmps.size) (i : Nat) : (a.put (some d) u).eval (.tmp i) = if i = d then u else a.eval (.tmp i) := by
  by_cases hi : i = d
  · subst hi; simp [Act.put, Act.eval, hd]
  · simp [Act.put, Act.eval, hi, Array.getElem?_setIfInBounds_ne (Ne.symm hi)]
theorem RFit.evo {t : Tm} {e : Env} {a : Act} (F : RFit ks np nt μ h t e a) (he : Evo μ h μ' h') : RFit ks np nt μ' h' t e a := ⟨F.size, F.defers, fun i => VR.evo he _ _ (F.val i), F.keep, F.low⟩
theorem putT_in {t : Tm} {d : Nat} {v : AV} (hc : ks.contains d = true) : putT ks t (some d) v = upd t d v := by simp only [putT, hc, cond_true]
theorem putT_out {t : Tm} {d : Nat} {v : AV} (hc : ks.contains d = false) : putT ks t (some d) v = t := by simp only [putT, hc, cond_false]
theorem look_put (t : Tm) (e : Env) (d : Nat) (v : AV) (i : Nat) : look (putT ks t (some d) v) (putE e (some d) v) i = if i = d then v else look t e i := by
  simp only [putE, look_cons]
  split
  · rfl
  · rename_i hi
    cases hc : ks.contains d with
    | true => rw [putT_in hc]; exact look_upd t d v e i hi
    | false => rw [putT_out hc]
theorem RFit.put {t : Tm} {e : Env} {a : Act} (F : RFit ks np nt μ h t e a) {d : Option Nat} (hd : dstOk ks np nt d = true) {v : AV} {u : Value} (hv : VR μ h v u) : RFit ks np nt μ h (putT ks t d v) (putE e d v) (a.put d u) := by
  cases d with
  | none => exact F
  | some d =>
    simp only [dstOk, Bool.and_eq_true, Bool.or_eq_true, decide_eq_true_eq] at hd
    obtain ⟨h1, h2⟩ := hd
    have hlook := look_put (ks := ks) t e d v
    refine ⟨by simp [Act.put, F.size], F.defers, fun i => ?_, fun i hi => ?_, fun i hi hn => ?_⟩
    · rw [hlook, eval_put _ _ _ (by rw [F.size]; exact h1)]
      split
      · exact hv
      · exact F.val i
    · rw [hlook]
      cases hc : ks.contains d with
      | true =>
        rw [putT_in hc]
        simp only [upd]
        split
        · rfl
        · exact F.keep i hi
      | false =>
        rw [putT_out hc]
        have hne : i ≠ d := by
          rintro rfl
          rcases hi with hi | hi
          · rw [hc] at hi; cases hi
          · rcases h2 with h2 | h2
            · rw [hc] at h2; cases h2
            · omega
        rw [if_neg hne]
        exact F.keep i hi
    · cases hc : ks.contains d with
      | true =>
        rw [putT_in hc]
        simp only [upd]
        rw [if_neg (by rintro rfl; rw [hc] at hi; cases hi)]
        exact F.low i hi hn
      | false => rw [putT_out hc]; exact F.low i hi hn
theorem RFit.done {t : Tm} {e : Env} {a : Act} (F : RFit ks np nt μ h t e a) : Fit ks np nt μ h t a := by
  refine ⟨F.size, F.defers, fun i => ?_, fun i _ => rfl, F.low⟩
  rw [look_nil]
  by_cases hi : ks.contains i = true ∨ i < np
  · rw [F.keep i hi]; exact F.val i
  · rw [F.low i (by simpa using fun hc => hi (.inl (by simpa using hc))) (by omega)]; simp [VR]
theorem RFit.ops {t : Tm} {e : Env} {a : Act} (F : RFit ks np nt μ h t e a) (x : Operand) : VR μ h (ev t e x) (a.eval x) := by
  cases x with
  | tmp i => exact F.val i
  | const v => simp only [ev, cv]; split <;> simp [VR, Act.eval, *]
  | global g => simp [ev, VR]
  | func f => simp [ev, VR, Act.eval, VRs]
theorem wants_sound {t : Tm} {e : Env} {a : Act} (hval : ∀ i, VR μ h (look t e i) (a.eval (.tmp i))) {ops : Array Oper} {o : Oper} {b : Bool} (hw : wants ops.toList t e o = some b) : Region.wanted o (yielded ops a.tmps) = b := by
  unfold AM.wants at hw
  unfold Region.wanted
  cases hg : o.guard with
  | none => rw [hg] at hw; simp at hw; simp [hw]
  | some p =>
    obtain ⟨j, want⟩ := p
    rw [hg] at hw
    dsimp only at hw
    split at hw <;> try (simp at hw; done)
    rename_i d hd
    unfold wB at hw
    split at hw <;> try (simp at hw; done)
    · rename_i x q hq
      have hv := hval d
      rw [hq] at hv
      simp only [VR] at hv
      have h1 : a.tmps[d]? = some (.bool q) := by
        have := hv.2
        simp only [Act.eval, Array.getD_eq_getD_getElem?] at this
        cases hx : a.tmps[d]? with
        | none => rw [hx] at this; simp [undef] at this
        | some y => rw [hx] at this; simp at this; rw [this]
      have h2 : yielded ops a.tmps j = some q := by
        unfold yielded
        rw [show ops[j]? = ops.toList[j]? by simp, hd]
        simp [h1]
      simp only [Option.some.injEq] at hw
      subst hw
      simp [h2]
    · rename_i x hq
      have hv := hval d
      rw [hq] at hv
      simp only [VR, VRs] at hv
      obtain ⟨vs, e1, e2⟩ := hv
      have h2 : yielded ops a.tmps j = none := by
        unfold yielded
        rw [show ops[j]? = ops.toList[j]? by simp, hd]
        simp only [Act.eval, Array.getD_eq_getD_getElem?] at e1
        cases hx : a.tmps[d]? with
        | none => simp [hx]
        | some y =>
          rw [hx] at e1
          simp at e1
          simp [hx, e1]
      simp only [Option.some.injEq] at hw
      subst hw
      simp [h2]
theorem RFit.wants {t : Tm} {e : Env} {a : Act} (F : RFit ks np nt μ h t e a) {ops : Array Oper} {o : Oper} {b : Bool} (hw : wants ops.toList t e o = some b) : Region.wanted o (yielded ops a.tmps) = b := wants_sound F.val hw
theorem gopK_some {g : Option Bool} {h : Hp} {run : (AV → Hp → Option β) → Option β} {k : AV → Hp → Option β} {res : β} (hk : gopK g h run k = some res) : (g = some true ∧ run k = some res) ∨ (g = some false ∧ k (.tup []) h = some res) := by
  unfold gopK at hk
  split at hk
  · exact .inl ⟨rfl, hk⟩
  · exact .inr ⟨rfl, hk⟩
  · cases hk
theorem opsK_sound {T : Tab} (TS : TSound P T) {ops : Array Oper} (hok : ops.toList.all (fun o => dstOk ks np nt o.dst) = true) {Q : Exit → Act → World → Prop} {n : Nat} {k : St → Option β} {res : β} :
    ∀ (os : List Oper) (j : Nat), os = ops.toList.drop j → ∀ (t : Tm) (e : Env) (h : Hp) (a : Act) (w : World) (μ : Mu), opsK P T ks ops.toList os t e h k = some res → RFit ks np nt μ h t e a → Rel μ h w →
      (∀ t' h' a' w' μ', k (t', h') = some res → Fit ks np nt μ' h' t' a' → Step μ h w μ' h' w' → Q .normal a' w') → wpOpsIn Fence.wide n P ops Q (List.range' j os.length) a w
  | [], j, hj, t, e, h, a, w, μ, hk, F, R, hQ => by
    simp only [opsK] at hk
    exact hQ _ _ _ _ _ hk F.done (Step.refl R)
  | o :: os, j, hj, t, e, h, a, w, μ, hk, F, R, hQ => by
    have hlt : j < ops.toList.length := by
      rcases Nat.lt_or_ge j ops.toList.length with h1 | h1
      · exact h1
      · rw [List.drop_eq_nil_of_le h1] at hj; cases hj
    have hjo : ops[j]? = some o := by
      rw [List.drop_eq_getElem_cons hlt] at hj
      injection hj with h1 h2
      rw [h1]
      simp at hlt ⊢
    have hos : os = ops.toList.drop (j + 1) := by
      rw [List.drop_eq_getElem_cons hlt] at hj
      injection hj with h1 h2
    have hdo : dstOk ks np nt o.dst = true := List.all_eq_true.1 hok o (by
      have : ops.toList[j]? = some o := by simpa using hjo
      exact List.mem_of_getElem? this)
    simp only [List.length_cons, List.range'_succ]
    simp only [wpOpsIn, hjo]
    simp only [opsK, stepK] at hk
    have next : ∀ v h1 μ' w' u, opsK P T ks ops.toList os (putT ks t o.dst v) (putE e o.dst v) h1 k = some res → Step μ h w μ' h1 w' → VR μ' h1 v u →
        wpOpsIn Fence.wide n P ops Q (List.range' (j + 1) os.length) (a.put o.dst u) w' := by
      intro v h1 μ' w' u hk hst hv
      exact opsK_sound TS hok os (j + 1) hos _ _ _ _ _ _ hk ((F.evo hst.evo).put hdo hv) hst.rel fun t' h' a' w'' μ'' q1 q2 q3 => hQ t' h' a' w'' μ'' q1 q2 (hst.trans q3)
    cases hg : o.guard with
    | none =>
      rw [hg] at hk
      have hw : Region.wanted o (yielded ops a.tmps) = true := by simp [Region.wanted, hg]
      rw [if_pos hw]
      exact op_sound TS R F.ops hk fun v h1 μ' w' u q1 q2 q3 => next v h1 μ' w' u q1 q2 q3
    | some p =>
      rw [hg] at hk
      rcases gopK_some hk with ⟨h1, h2⟩ | ⟨h1, h2⟩
      · rw [if_pos (F.wants h1)]
        exact op_sound TS R F.ops h2 fun v h1 μ' w' u q1 q2 q3 => next v h1 μ' w' u q1 q2 q3
      · rw [if_neg (by rw [F.wants h1]; simp)]
        exact ⟨fun _ _ => trivial, next _ _ _ _ _ h2 (Step.refl R) (by simp [VR, VRs, undef])⟩
theorem region_sound {T : Tab} (TS : TSound P T) {id n : Nat} {ops : Array Oper} (hok : ops.toList.all (fun o => dstOk ks np nt o.dst) = true) {Q : Exit → Act → World → Prop} {k : St → Option β} {res : β} {t : Tm} {h : Hp} {a : Act} {w : World} {μ : Mu}
    (hk : opsK P T ks ops.toList ops.toList t [] h k = some res) (F : Fit ks np nt μ h t a) (R : Rel μ h w)
    (hQ : ∀ t' h' a' w' μ', k (t', h') = some res → Fit ks np nt μ' h' t' a' → Step μ h w μ' h' w' → Q .normal a' w') : (Code.region id ops false).wpIn Fence.wide n P Q a w := by
  refine wpIn_region ?_
  have := opsK_sound (n := n) TS hok ops.toList 0 rfl t [] h a w μ hk F R hQ
  rw [List.range_eq_range']
  simpa using this
end Go.AM
