import Derived.Test.YtlnjnfbdcdmacaaAmDraw4
import Derived.Test.YtlnjnfbdcdmacaaAmGrp
namespace Go.AM
open Go.RowKit
set_option linter.unusedVariables false
set_option linter.unusedSimpArgs false
set_option linter.constructorNameAsVariable false
variable {P : Program} {μ μ' : Mu} {h h' : Hp} {w w' : World} {β : Type} {ks : List Nat} {np nt : Nat}
/-! ### Loops that end within a number of rounds -/
section
variable {F : Fence} {n : Nat} {Q : Exit → Act → World → Prop} {c : Code}
def LoopW (F : Fence) (n : Nat) (P : Program) (c : Code) (Q : Exit → Act → World → Prop) : Nat → Act → World → Prop
  | 0, _, _ => False
  | m + 1, a, w => c.wpIn F n P (Exit.then (LoopW F n P c Q m) Q) a w
theorem least {p : Nat → Prop} : ∀ m, p m → ∃ k, p k ∧ ∀ j, j < k → ¬ p j := by
  intro m
  induction m using Nat.strongRecOn with
  | _ m ih =>
    intro hm
    by_cases hx : ∃ j, j < m ∧ p j
    · obtain ⟨j, h1, h2⟩ := hx; exact ih j h1 h2
    · exact ⟨m, hm, fun j hj hp => hx ⟨j, hj, hp⟩⟩
open Classical in
noncomputable def leastOf (p : Nat → Prop) : Nat := if hx : ∃ k, p k ∧ ∀ j, j < k → ¬ p j then hx.choose else 0
theorem leastOf_spec {p : Nat → Prop} {m : Nat} (hm : p m) : p (leastOf p) ∧ leastOf p ≤ m := by
  have hx := least m hm
  unfold leastOf
  rw [dif_pos hx]
  have := hx.choose_spec
  refine ⟨this.1, ?_⟩
  rcases Nat.lt_or_ge m hx.choose with h1 | h1
  · exact absurd hm (this.2 m h1)
  · exact h1
theorem wpIn_loopW {m : Nat} {a : Act} {w : World} (hl : LoopW F n P c Q m a w) : (Code.loop c).wpIn F n P Q a w := by
  refine wpIn_loop (fun a w => ∃ m, LoopW F n P c Q m a w) (fun a w => leastOf fun m => LoopW F n P c Q m a w) ⟨m, hl⟩ ?_
  rintro a w ⟨m, hl⟩
  obtain ⟨h1, -⟩ := leastOf_spec (p := fun m => LoopW F n P c Q m a w) hl
  generalize hq : leastOf (fun m => LoopW F n P c Q m a w) = q at h1 ⊢
  cases q with
  | zero => exact h1.elim
  | succ q =>
    refine wpIn_mono h1 fun e a' w' he => ?_
    cases e with
    | normal => exact ⟨⟨q, he⟩, by have := (leastOf_spec (p := fun m => LoopW F n P c Q m a' w') he).2; omega⟩
    | _ => exact he
end
def toX : Ex → Exit
  | .normal => .normal
  | .exit i => .exit i
  | .ret => .ret
def codeOk (ks : List Nat) (np nt : Nat) : Code → Bool
  | .region _ ops _ => ops.toList.all fun o => dstOk ks np nt o.dst
  | .seq a b => codeOk ks np nt a && codeOk ks np nt b
  | .cond _ a b => codeOk ks np nt a && codeOk ks np nt b
  | .block _ c => codeOk ks np nt c
  | .loop c => codeOk ks np nt c
  | _ => true
/-- What code is good for. -/
def ExecS (P : Program) (T : Tab) (D : DTab) (N : Nat) (ks : List Nat) (np nt n : Nat) (c : Code) : Prop :=
  ∀ {β : Type} (t : Tm) (h : Hp) (k : Ex → St → Option β) (res : β) (a : Act) (w : World) (μ : Mu) (Q : Exit → Act → World → Prop), execK P T D N ks c (t, h) k = some res → Fit ks np nt μ h t a → Rel μ h w →
    (∀ e t' h' a' w' μ', k e (t', h') = some res → Fit ks np nt μ' h' t' a' → Step μ h w μ' h' w' → Q (toX e) a' w') → c.wpIn Fence.wide n P Q a w
theorem iter_sound {T : Tab} {D : DTab} {N n : Nat} {c : Code} (ih : ExecS P T D N ks np nt n c) {Q : Exit → Act → World → Prop} {k : Ex → St → Option β} {res : β} : ∀ (m : Nat) (t : Tm) (h : Hp) (a : Act) (w : World) (μ : Mu),
    iterK (fun s k => execK P T D N ks c s k) m (t, h) k = some res → Fit ks np nt μ h t a → Rel μ h w →
    (∀ e t' h' a' w' μ', k e (t', h') = some res → Fit ks np nt μ' h' t' a' → Step μ h w μ' h' w' → Q (toX e) a' w') → LoopW Fence.wide n P c Q m a w
  | 0, t, h, a, w, μ, hk, _, _, _ => by simp [iterK] at hk
  | m + 1, t, h, a, w, μ, hk, Fi, R, hQ => by
    simp only [iterK] at hk
    refine ih t h _ res a w μ _ hk Fi R ?_
    intro e t' h' a' w' μ' q1 q2 q3
    cases e with
    | normal => exact iter_sound ih m t' h' a' w' μ' q1 q2 q3.rel fun e t'' h'' a'' w'' μ'' r1 r2 r3 => hQ e t'' h'' a'' w'' μ'' r1 r2 (q3.trans r3)
    | exit i => exact hQ (.exit i) t' h' a' w' μ' q1 q2 q3
    | ret => exact hQ .ret t' h' a' w' μ' q1 q2 q3
theorem exec_sound {T : Tab} {D : DTab} (TS : TSound P T) (DS : DSound P D) (hm : P.follows .mixedOrders = true) {N n : Nat} : ∀ (c : Code), codeOk ks np nt c = true → ExecS P T D N ks np nt n c
  | .skip, _ => fun t h k res a w μ Q hk Fi R hQ => wpIn_skip (hQ .normal t h a w μ hk Fi (Step.refl R))
  | .label _, _ => fun t h k res a w μ Q hk Fi R hQ => wpIn_label (hQ .normal t h a w μ hk Fi (Step.refl R))
  | .exit i, _ => fun t h k res a w μ Q hk Fi R hQ => wpIn_exit (hQ (.exit i) t h a w μ hk Fi (Step.refl R))
  | .ret, _ => fun t h k res a w μ Q hk Fi R hQ => wpIn_ret (hQ .ret t h a w μ hk Fi (Step.refl R))
  | .region id ops false, hok => fun t h k res a w μ Q hk Fi R hQ => region_sound TS hok (Grp.regK_opsK hk) Fi R fun t' h' a' w' μ' q1 q2 q3 => hQ .normal t' h' a' w' μ' q1 q2 q3
  | .region id ops true, hok => fun t h k res a w μ Q hk Fi R hQ => by
    simp only [execK] at hk
    cases hd : okDraw ops with
    | false => rw [hd] at hk; cases hk
    | true =>
      rw [hd] at hk
      simp only [cond_true] at hk
      cases hp : (prsOf P ops.toList).isEmpty with
      | true =>
        rw [hp] at hk
        exact chain_sound TS hm hok hd hp (Grp.regK_opsK hk) Fi R fun t' h' a' w' μ' q1 q2 q3 => hQ .normal t' h' a' w' μ' q1 q2 q3
      | false =>
        rw [hp] at hk
        exact draw_sound DS hm hok hd hk Fi R fun t' h' a' w' μ' q1 q2 q3 => hQ .normal t' h' a' w' μ' q1 q2 q3
  | .seq x y, hok => fun t h k res a w μ Q hk Fi R hQ => by
    simp only [codeOk, Bool.and_eq_true] at hok
    simp only [execK] at hk
    refine wpIn_seq (exec_sound TS DS hm x hok.1 t h _ res a w μ _ hk Fi R ?_)
    intro e t' h' a' w' μ' q1 q2 q3
    cases e with
    | normal => exact exec_sound TS DS hm y hok.2 t' h' _ res a' w' μ' _ q1 q2 q3.rel fun e t'' h'' a'' w'' μ'' r1 r2 r3 => hQ e t'' h'' a'' w'' μ'' r1 r2 (q3.trans r3)
    | exit i => exact hQ (.exit i) t' h' a' w' μ' q1 q2 q3
    | ret => exact hQ .ret t' h' a' w' μ' q1 q2 q3
  | .cond c x y, hok => fun t h k res a w μ Q hk Fi R hQ => by
    simp only [codeOk, Bool.and_eq_true] at hok
    simp only [execK, condK] at hk
    split at hk <;> try (simp at hk; done)
    rename_i q hq
    have hv := Fi.ops c
    rw [hq] at hv
    simp only [VR] at hv
    cases q with
    | true => exact wpIn_cond (t := true) hv.2 (exec_sound TS DS hm x hok.1 t h k res a w μ Q hk Fi R hQ)
    | false => exact wpIn_cond (t := false) hv.2 (exec_sound TS DS hm y hok.2 t h k res a w μ Q hk Fi R hQ)
  | .block id c, hok => fun t h k res a w μ Q hk Fi R hQ => by
    simp only [codeOk] at hok
    simp only [execK] at hk
    refine wpIn_block (exec_sound TS DS hm c hok t h _ res a w μ _ hk Fi R ?_)
    intro e t' h' a' w' μ' q1 q2 q3
    cases e with
    | normal => exact hQ .normal t' h' a' w' μ' q1 q2 q3
    | exit i =>
      simp only [toX, Exit.inBlock, Ex.on] at q1 ⊢
      by_cases hi : i = id
      · rw [if_pos hi]
        rw [hi] at q1
        simp only [beq_self_eq_true, cond_true] at q1
        exact hQ .normal t' h' a' w' μ' q1 q2 q3
      · rw [if_neg hi]
        have hb : (i == id) = false := by simpa using hi
        rw [hb] at q1
        exact hQ (.exit i) t' h' a' w' μ' q1 q2 q3
    | ret => exact hQ .ret t' h' a' w' μ' q1 q2 q3
  | .loop c, hok => fun t h k res a w μ Q hk Fi R hQ => by
    simp only [codeOk] at hok
    simp only [execK] at hk
    exact wpIn_loopW (iter_sound (exec_sound TS DS hm c hok) N t h a w μ hk Fi R hQ)
  | .rangeFunc .., _ => fun t h k res a w μ Q hk Fi R hQ => by simp [execK] at hk
  | .scope _, _ => fun t h k res a w μ Q hk Fi R hQ => by simp [execK] at hk
  | .goto _, _ => fun t h k res a w μ Q hk Fi R hQ => by simp [execK] at hk
  | .refuse _, _ => fun t h k res a w μ Q hk Fi R hQ => by simp [execK] at hk

/-! ### A call -/
def outM (a : Act) : ResultVar → Sem Value
  | .tmp i => pure (a.tmps.getD i undef)
  | .cell i ty => do loadVar ty (← asAddr (a.tmps.getD i undef))
theorem results_eq (fn : Func) (a : Act) : results fn a.tmps = (do let vs ← fn.results.mapM (outM a); pure (if h : vs.size = 1 then vs[0] else .tuple vs)) := by
  unfold results
  congr 2
theorem out_sound {a : Act} {t : Tm} (R : Rel μ h w) (hv : ∀ i, VR μ h (t i) (a.eval (.tmp i))) {r : ResultVar} {x : AV} (hk : outV P t h r = some x) :
    ∃ v, (outM a r).run P w = .ok v w ∧ VR μ h x v := by
  cases r with
  | tmp i =>
    simp only [outV, Option.some.injEq] at hk
    subst hk
    exact ⟨a.tmps.getD i undef, rfl, hv i⟩
  | cell i ty =>
    simp only [outV] at hk
    split at hk <;> try (simp at hk; done)
    rename_i n hs
    obtain ⟨v, h1, h2⟩ := ld_sound (P := P) (w := w) R (hv i) hs hk
    refine ⟨v, ?_, h2⟩
    have hp : ∃ ad, a.eval (.tmp i) = .pointer (some ad) := by
      unfold ldK at hk
      split at hk <;> try (simp at hk; done)
      case h_2 el sub e =>
        have := hv i
        rw [e] at this
        simp only [VR] at this
        obtain ⟨blk, o, vs, h3, _⟩ := this
        exact ⟨_, h3⟩
      rename_i id idx sub fr e
      have := hv i
      rw [e] at this
      simp only [VR] at this
      obtain ⟨ad, h3, _⟩ := this
      exact ⟨ad, h3⟩
    obtain ⟨ad, hp⟩ := hp
    have hp' : a.tmps.getD i undef = .pointer (some ad) := hp
    rw [hp] at h1
    simp only [outM]
    rw [hp']
    simpa [Instr.loadAt, Instr.sureAddr, asAddr] using h1
theorem outs_list {a : Act} {t : Tm} (R : Rel μ h w) (hv : ∀ i, VR μ h (t i) (a.eval (.tmp i))) : ∀ (rs : List ResultVar) (xs : List AV), rs.mapM (outV P t h) = some xs →
    ∃ vs, (rs.mapM (outM a)).run P w = .ok vs w ∧ VRs μ h xs vs
  | [], xs, hk => by
    simp at hk
    subst hk
    exact ⟨[], by simp, by simp [VRs]⟩
  | r :: rs, xs, hk => by
    simp only [List.mapM_cons, bind, Option.bind_eq_some_iff, pure, Option.some.injEq] at hk
    obtain ⟨x, hx, ys, hys, rfl⟩ := hk
    obtain ⟨v, h1, h2⟩ := out_sound (P := P) (w := w) R hv hx
    obtain ⟨vs, h3, h4⟩ := outs_list R hv rs ys hys
    refine ⟨v :: vs, ?_, by simp only [VRs]; exact ⟨v, vs, rfl, h2, h4⟩⟩
    simp only [List.mapM_cons, Sem.run_bind, h1, h3, Result.andThen_ok, Sem.run_pure]
theorem outsK_eq {β : Type} (t : Tm) (h : Hp) : ∀ (rs : List ResultVar) (k : List AV → Option β), outsK P t h rs k = (rs.mapM (outV P t h)).bind k
  | [], k => by simp [outsK]
  | .tmp i :: rs, k => by
    simp only [outsK, outsK_eq t h rs]
    simp only [List.mapM_cons, outV]
    cases rs.mapM (outV P t h) <;> simp
  | .cell a ty :: rs, k => by
    simp only [outsK, outsK_eq t h rs]
    simp only [List.mapM_cons, outV]
    cases szOf P ty with
    | none => simp
    | some n =>
      dsimp only
      rw [ldK_nat]
      cases ldK n (aggT P ty) (t a) h some with
      | none => simp
      | some x => cases rs.mapM (outV P t h) <;> simp
theorem results_sound {a : Act} {t : Tm} (R : Rel μ h w) (hv : ∀ i, VR μ h (t i) (a.eval (.tmp i))) {fn : Func} {β : Type} {k : List AV → Option β} {res : β} (hk : outsK P t h fn.results.toList k = some res) :
    ∃ xs v, k xs = some res ∧ (results fn a.tmps).run P w = .ok v w ∧ VR μ h (pack xs) v := by
  rw [outsK_eq] at hk
  obtain ⟨xs, hxs, hk⟩ := Option.bind_eq_some_iff.1 hk
  obtain ⟨vs, h1, h2⟩ := outs_list (P := P) (w := w) R hv _ _ hxs
  have hrun : (results fn a.tmps).run P w = .ok (if hl : vs.length = 1 then vs[0] else .tuple vs.toArray) w := by
    rw [results_eq, Array.mapM_eq_mapM_toList]
    simp only [map_eq_pure_bind, Sem.run_bind, h1, Result.andThen_ok, Sem.run_pure]
    simp
  refine ⟨xs, _, hk, hrun, ?_⟩
  unfold pack
  split
  · simp only [VRs] at h2
    obtain ⟨v, vs', rfl, h3, rfl⟩ := h2
    simpa using h3
  · rename_i hn
    have hl : vs.length ≠ 1 := by
      rw [← h2.length]
      intro e
      obtain ⟨y, rfl⟩ := List.length_eq_one_iff.1 e
      exact hn y rfl
    simp only [hl, dite_false]
    simp only [VR]
    exact ⟨_, rfl, h2⟩
theorem tm0_get : ∀ (args : List AV) (i : Nat), tm0 args i = (args[i]?).getD .u
  | [], i => by simp [tm0]
  | a :: as, 0 => by simp [tm0]
  | a :: as, i + 1 => by simp [tm0, tm0_get as i]
/-- The function of a run. -/
def runF (P : Program) (T : Tab) (D : DTab) (N : Nat) (ks : List Nat) (fn : Func) (np : Nat) : Fun := fun args h => if args.length = np then run P T D N ks fn args h else none
def fnOk (ks : List Nat) (np : Nat) (fn : Func) : Bool := decide (np ≤ fn.ntmps) && !(fn.name == "runtime.NumGoroutine") && match fn.body with | some c => codeOk ks np fn.ntmps c | none => false
theorem run_sound {T : Tab} {D : DTab} (TS : TSound P T) (DS : DSound P D) (hm : P.follows .mixedOrders = true) {f : FuncId} {fn : Func} (hf : P.funcs[f]? = some fn) (hok : fnOk ks np fn = true) (N : Nat) : CSound P f (runF P T D N ks fn np) := by
  intro args h v h' hk μ w cargs R hargs
  simp only [fnOk, Bool.and_eq_true, decide_eq_true_eq, Bool.not_eq_true'] at hok
  obtain ⟨⟨hnt, hname⟩, hc⟩ := hok
  cases hb : fn.body with
  | none => rw [hb] at hc; cases hc
  | some c =>
    rw [hb] at hc
    refine ⟨⟨fn, hf, hname, by rw [hb]; rfl⟩, ?_⟩
    unfold runF at hk
    split at hk <;> try (simp at hk; done)
    rename_i hlen
    unfold run at hk
    rw [hb] at hk
    simp only at hk
    have hsz : cargs.size = np := by rw [← hlen, hargs.length]; simp
    have hfit : Fit ks np fn.ntmps μ h (tm0 args) { tmps := cargs ++ Array.replicate (fn.ntmps - cargs.size) undef, defers := [] } := by
      refine ⟨by simp; omega, rfl, fun i => ?_, fun i _ => rfl, fun i _ hi => ?_⟩
      · rw [look_nil, tm0_get]
        cases ha : args[i]? with
        | none => simp [VR]
        | some x =>
          obtain ⟨u, h1, h2⟩ := hargs.get i x ha
          have hlt : i < cargs.size := by
            rw [← Array.length_toList]; exact (List.getElem?_eq_some_iff.1 h1).1
          have : (Act.mk (cargs ++ Array.replicate (fn.ntmps - cargs.size) undef) []).eval (.tmp i) = u := by
            simp only [Act.eval, Array.getD_eq_getD_getElem?, Array.getElem?_append_left hlt]
            have : cargs[i]? = some u := by simpa using h1
            rw [this]; rfl
          rw [this]
          exact h2
      · rw [tm0_get, List.getElem?_eq_none (by omega)]; rfl
    refine callsIn_wide.1 (callsIn_of_wp (n := 0) hf hb trivial ?_)
    refine exec_sound TS DS hm c hc _ _ _ _ _ _ _ _ hk hfit R ?_
    intro e t' h1 a' w' μ' q1 q2 q3
    have key : outsK P t' h1 fn.results.toList (fun vs => some (pack vs, h1)) = some (v, h') → a'.defers = [] ∧ ∃ u, (results fn a'.tmps).run P w' = .ok u w' ∧ ∃ cv μ', (Ending.returned u) = .returned cv ∧ Step μ h w μ' h' w' ∧ VR μ' h' v cv := by
      intro hx
      obtain ⟨xs, u, e, r1, r2⟩ := results_sound q3.rel q2.val hx
      simp only [Option.some.injEq, Prod.mk.injEq] at e
      obtain ⟨rfl, rfl⟩ := e
      exact ⟨q2.defers, u, r1, u, μ', rfl, q3, r2⟩
    cases e with
    | normal => exact key q1
    | exit i => simp [finish, Ex.on] at q1
    | ret => exact key q1
end Go.AM
