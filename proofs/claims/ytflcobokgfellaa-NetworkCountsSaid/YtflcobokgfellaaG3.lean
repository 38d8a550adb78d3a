import Derived.Test.YtflcobokgfellaaG2
import Derived.Test.YtflcobokgfellaaProg
set_option linter.unusedSectionVars false
set_option linter.unusedVariables false
set_option linter.unusedSimpArgs false
set_option linter.constructorNameAsVariable false
namespace Go.AM
open Go.RowKit
set_option linter.unusedVariables false
set_option linter.unusedSimpArgs false
set_option linter.constructorNameAsVariable false
variable {P : Program} {μ μ' : Mu} {h h' : Hp} {w w' : World} {ks : List Nat} {np : Nat}
noncomputable def trimT (ks : List Nat) (np : Nat) (t : Tm) : Tm := fun i => match ks.contains i || decide (i < np) with | true => t i | false => .u
noncomputable def bindT (t : Tm) : List Nat → List AV → Tm
  | p :: ps, a :: asl => bindT (upd t p a) ps asl
  | _, _ => t
noncomputable def okRound (ks : List Nat) (np m : Nat) (ps : List Nat) (n : Nat) (asg body : Code) : Bool :=
  Nat.beq ps.length n && (ps.all fun p => ks.contains p && decide (p < m)) && codeOk ks np m asg && codeOk ks np m body && noRange asg && noRange body
noncomputable def endK (L m : Nat) (ps : Array Tmp) (asg body : Code) (ts : Tm) (e : Ex) (s : St) : Option (AV × Hp) :=
  e.on (some (.s (.bool true), s.2.set L (.loop m ps asg body ts .ready none)))
    (fun i => some (.s (.bool false), s.2.set L (.loop m ps asg body ts .done (some (.exit i)))))
    (some (.s (.bool false), s.2.set L (.loop m ps asg body ts .done (some .ret))))
noncomputable def beginX {β : Type} (L m : Nat) (ps : Array Tmp) (asg body : Code) (ts : Tm) (h : Hp) (k : Hp → Option β) : Option β :=
  match h[L]? with
  | some (.loop _ _ _ _ _ .ready pend) => k (h.set L (.loop m ps asg body ts .busy pend))
  | _ => none
noncomputable def beginK (P : Program) (T : Tab) (D : DTab) (N : Nat) (ks : List Nat) (L m : Nat) (ps : Array Tmp) (asg body : Code) (ts : Tm) (e : Ex) (s : St) : Option (AV × Hp) :=
  e.on (beginX L m ps asg body ts s.2 fun h => execK P T D N ks body (s.1, h) (endK L m ps asg body ts)) (fun _ => none) none
noncomputable def roundF (P : Program) (T : Tab) (D : DTab) (N : Nat) (ks : List Nat) (np L m : Nat) (ps : Array Tmp) (asg body : Code) (ts : Tm) (args : List AV) (h : Hp) : Option (AV × Hp) :=
  execK P T D N ks asg (bindT (trimT ks np ts) ps.toList args, h) (beginK P T D N ks L m ps asg body ts)
noncomputable def yieldF (P : Program) (T : Tab) (D : DTab) (N : Nat) (ks : List Nat) (np : Nat) : Fun := fun args h =>
  match args with
  | .s (.map (some 0)) :: .yl L :: asl =>
    match h[L]? with
    | some (.loop m ps asg body ts .ready pend) => match okRound ks np m ps.toList asl.length asg body with
      | true => roundF P T D N ks np L m ps asg body ts asl h
      | false => none
    | _ => none
  | _ => none
theorem yieldF_val {T : Tab} {D : DTab} {N L m : Nat} {ps : Array Tmp} {asg body : Code} {ts : Tm} {pend : Option Code} {asl : List AV} (hL : h[L]? = some (.loop m ps asg body ts .ready pend)) (hok : okRound ks np m ps.toList asl.length asg body = true) :
    yieldF P T D N ks np (ymark :: .yl L :: asl) h = roundF P T D N ks np L m ps asg body ts asl h := by
  unfold yieldF
  simp [hL, hok]
theorem dstOk_mono {m n : Nat} (hm : m ≤ n) {d : Option Nat} (h : dstOk ks np m d = true) : dstOk ks np n d = true := by
  cases d with
  | none => rfl
  | some d =>
    simp only [dstOk, Bool.and_eq_true, decide_eq_true_eq] at h ⊢
    exact ⟨by omega, h.2⟩
theorem codeOk_mono {m n : Nat} (hm : m ≤ n) : ∀ (c : Code), codeOk ks np m c = true → codeOk ks np n c = true
  | .region _ ops _, h => by
    simp only [codeOk, List.all_eq_true] at h ⊢
    exact fun o ho => dstOk_mono hm (h o ho)
  | .seq a b, h => by simp only [codeOk, Bool.and_eq_true] at h ⊢; exact ⟨codeOk_mono hm a h.1, codeOk_mono hm b h.2⟩
  | .cond _ a b, h => by simp only [codeOk, Bool.and_eq_true] at h ⊢; exact ⟨codeOk_mono hm a h.1, codeOk_mono hm b h.2⟩
  | .block _ c, h => by simp only [codeOk] at h ⊢; exact codeOk_mono hm c h
  | .loop c, h => by simp only [codeOk] at h ⊢; exact codeOk_mono hm c h
  | .scope c, h => by simp only [codeOk] at h ⊢; exact codeOk_mono hm c h
  | .rangeFunc _ _ a c, h => by simp only [codeOk, Bool.and_eq_true] at h ⊢; exact ⟨codeOk_mono hm a h.1, codeOk_mono hm c h.2⟩
  | .skip, _ => rfl
  | .label _, _ => rfl
  | .exit _, _ => rfl
  | .ret, _ => rfl
  | .goto _, _ => rfl
  | .refuse _, _ => rfl
theorem bind_sound {nt : Nat} : ∀ (ps : List Nat) (asl : List AV) (cas : List Value) (t : Tm) (tmps : Array Value), VRs μ h asl cas → ps.length = asl.length → tmps.size = nt → (∀ p ∈ ps, ks.contains p = true ∧ p < nt) →
    (∀ i, VR μ h (t i) (tmps.getD i undef)) → (∀ i, ks.contains i = false → np ≤ i → t i = .u) →
    ∃ tm : Array Value, (ps.zip cas).foldl (fun tmps (p : Nat × Value) => tmps.setIfInBounds p.1 p.2) tmps = tm ∧ Fit ks np nt [] μ h (bindT t ps asl) { tmps := tm, defers := [] }
  | [], asl, cas, t, tmps, hv, hl, hs, hp, ht, hlow => by
    refine ⟨tmps, by simp, hs, rfl, fun i => ?_, fun i _ => rfl, ?_⟩
    · rw [look_nil]; simpa [bindT, Act.eval] using ht i
    · simpa [bindT] using hlow
  | p :: ps, [], cas, t, tmps, hv, hl, hs, hp, ht, hlow => by simp at hl
  | p :: ps, a :: asl, cas, t, tmps, hv, hl, hs, hp, ht, hlow => by
    simp only [VRs] at hv
    obtain ⟨v, vs, rfl, h1, h2⟩ := hv
    have hpp := hp p (by simp)
    simp only [List.zip_cons_cons, List.foldl_cons, bindT]
    refine bind_sound ps asl vs (upd t p a) _ h2 (by simpa using hl) (by simpa using hs) (fun q hq => hp q (by simp [hq])) (fun i => ?_) (fun i hi hn => ?_)
    · have := eval_put { tmps, defers := [] } p v (by rw [hs]; exact hpp.2) i
      simp only [Act.put, Act.eval] at this
      rw [this]
      simp only [upd]
      split
      · exact h1
      · exact ht i
    · simp only [upd]
      rw [if_neg (by rintro rfl; rw [hpp.1] at hi; cases hi)]
      exact hlow i hi hn
theorem yieldF_sound {T : Tab} {D : DTab} (TS : TSound P T) (DS : DSound P D) (hm : P.follows .mixedOrders = true) (N : Nat) : YSound P (yieldF P T D N ks np) := by
  intro args h v h' hk
  unfold yieldF at hk
  split at hk <;> try (simp at hk; done)
  rename_i L asl
  refine ⟨L, asl, rfl, fun μ w cas blk n R hcas hmu => ?_⟩
  split at hk <;> try (simp at hk; done)
  rename_i m ps asg body ts pend hL
  split at hk <;> try (simp at hk; done)
  rename_i hok
  simp only [okRound, Bool.and_eq_true, List.all_eq_true, decide_eq_true_eq] at hok
  obtain ⟨⟨⟨⟨⟨hlen, hps⟩, hc1⟩, hc2⟩, hn1⟩, hn2⟩ := hok
  have hlen := Nat.eq_of_beq_eq_true hlen
  obtain ⟨blk', r, hmu', hh, r1, r2, r3, r4, r5, r6, r7⟩ := R.obj _ _ hL
  rw [hmu] at hmu'
  injection hmu' with e
  subst e
  have hsz : cas.size = r.params.size := by
    rw [r3, ← Array.length_toList, ← hcas.length, ← hlen, Array.length_toList]
  obtain ⟨tm, e1, hF⟩ := bind_sound (ks := ks) (np := np) ps.toList asl cas.toList (trimT ks np ts) r.tmps hcas hlen rfl (fun p hp => ⟨(hps p hp).1, Nat.lt_of_lt_of_le (hps p hp).2 r6⟩) (fun i => by
    unfold trimT; split
    · exact r7 i
    · simp [VR]) (fun i hi hn => by
    unfold trimT
    split
    · rename_i q
      rw [hi] at q
      simp at q
      omega
    · rfl)
  have e2 : (r.params.zip cas).foldl (fun tmps (p : Nat × Value) => tmps.setIfInBounds p.1 p.2) r.tmps = tm := by
    rw [← e1, r3, ← Array.foldl_toList, Array.toList_zip]
  refine ⟨r.fn, tm, r.assign, r.body, ?_, ?_⟩
  · have := run_yield (P := P) hh hsz
    rw [← e2]
    exact this
  · refine roundIn_of_wpIn (F := Fence.wide) trivial ?_
    unfold roundF at hk
    rw [r4]
    refine exec_sound (ρ := some blk) (b0 := 0) (nt := r.tmps.size) TS DS hm asg (codeOk_mono r6 asg hc1) (.inr hn1) [] _ h _ _ _ w μ _ hk hF ⟨[], rfl, List.nodup_nil, fun r hr => by cases hr⟩ (Nat.zero_le _) R ?_
    intro e t1 h1 a1 w1 μ1 ds1 q1 q2 qm q3
    cases e with
    | exit i => simp [beginK, Ex.on] at q1
    | ret => simp [beginK, Ex.on] at q1
    | normal =>
      simp only [beginK, Ex.on, beginX] at q1
      split at q1 <;> try (simp at q1; done)
      rename_i m' ps' asg' body' ts' pend' hL1
      obtain ⟨st2, pend2, hL2, hm2⟩ := q3.evo.obj L _ hL
      have hs := hL2.symm.trans hL1
      simp only [Option.some.injEq, AObj.loop.injEq] at hs
      obtain ⟨g1, g2, g3, g4, g5, g6, g7⟩ := hs
      rw [g6, g7] at hL2
      obtain ⟨blk2, rr, k1, k2, k3, k4, k5, k6, k7, k8, k9, S4⟩ := Step.setLoop q3.rel hL2 .busy pend'
      rw [Mu.set_self] at S4
      rw [hm2, hmu] at k1
      injection k1 with e
      subst e
      have hb := run_beginRound (P := P) k2 k3
      rw [← k4] at S4 q1
      refine ⟨_, hb, ?_⟩
      rw [r5]
      have Sb := q3.trans S4
      refine exec_sound (ρ := some blk) (b0 := 0) (nt := r.tmps.size) TS DS hm body (codeOk_mono r6 body hc2) (.inr hn2) ds1 _ _ _ _ _ _ μ1 _ q1 (q2.evo S4.evo) (qm.evo S4.evo.imm) (Nat.zero_le _) S4.rel ?_
      intro e t3 h3 a3 w3 μ3 ds3 p1 p2 pm p3
      have hL3' : (h1.set L (AObj.loop m ps asg body ts .busy rr.pending))[L]? = some (.loop m ps asg body ts .busy rr.pending) := by
        rw [List.getElem?_set_self]; exact (List.getElem?_eq_some_iff.1 hL2).1
      obtain ⟨st3, pend3, hL3, hm3⟩ := p3.evo.obj L _ hL3'
      have fin : ∀ (jump : Option Code) (st' : LoopState) (b : Bool), st' = (if jump.isNone then .ready else .done) → b = jump.isNone → some (AV.s (.bool b), h3.set L (.loop m ps asg body ts st' jump)) = some (v, h') →
          ∃ v' w', (Instr.endRound blk jump).run P w3 = .ok v' w' ∧ ∃ cv μ', Ending.returned v' = .returned cv ∧ Step μ h w μ' h' w' ∧ VR μ' h' v cv := by
        intro jump st' b e1 e2 e3
        simp only [Option.some.injEq, Prod.mk.injEq] at e3
        obtain ⟨rfl, rfl⟩ := e3
        obtain ⟨blk3, r3', j1, j2, j3, j4, j5, j6, j7, j8, j9, S5⟩ := Step.setLoop p3.rel hL3 st' jump
        rw [Mu.set_self] at S5
        rw [hm3, hm2, hmu] at j1
        injection j1 with e
        subst e
        have he := run_endRound (P := P) jump j2
        rw [← e1] at he
        refine ⟨_, _, he, _, μ3, rfl, Sb.trans (p3.trans S5), ?_⟩
        simp only [VR]
        exact ⟨rfl, by rw [e2]⟩
      cases e with
      | normal => exact fin none .ready true rfl rfl p1
      | exit i => exact fin (some (.exit i)) .done false rfl rfl p1
      | ret => exact fin (some .ret) .done false rfl rfl p1
end Go.AM


namespace Go.AM
open Go.Proofs
set_option linter.unusedVariables false
set_option maxRecDepth 100000
theorem un_5 : Try.prog.underlying 5 = some (.int .u8) := by kernel_rfl
theorem un_3 : Try.prog.underlying 3 = some (.int .i64) := by kernel_rfl
@[simp] theorem cv_5_3 {β : Type} (n : Int) (k : K β) : convK Try.prog 5 3 (.s (.int .u8 n)) k = k (.s (.int .i64 (IntKind.i64.wrap n))) := convK_int un_5 un_3 k
@[simp] theorem el_22 : elemOf Try.prog 22 = some 33 := by kernel_rfl
@[simp] theorem eqn_22_false {β : Type} (h : Hp) (k : K β) : eqK Try.prog false 22 (.s (.slice none 0 0)) (.s (.slice none 0 0)) h k = k (.s (.bool true)) := by kernel_rfl
@[simp] theorem eqn_22_true {β : Type} (h : Hp) (k : K β) : eqK Try.prog true 22 (.s (.slice none 0 0)) (.s (.slice none 0 0)) h k = k (.s (.bool false)) := by kernel_rfl
@[simp] theorem el_23 : elemOf Try.prog 23 = some 3 := by kernel_rfl
@[simp] theorem eqn_23_false {β : Type} (h : Hp) (k : K β) : eqK Try.prog false 23 (.s (.slice none 0 0)) (.s (.slice none 0 0)) h k = k (.s (.bool true)) := by kernel_rfl
@[simp] theorem eqn_23_true {β : Type} (h : Hp) (k : K β) : eqK Try.prog true 23 (.s (.slice none 0 0)) (.s (.slice none 0 0)) h k = k (.s (.bool false)) := by kernel_rfl
@[simp] theorem el_37 : elemOf Try.prog 37 = some 31 := by kernel_rfl
@[simp] theorem eqn_37_false {β : Type} (h : Hp) (k : K β) : eqK Try.prog false 37 (.s (.slice none 0 0)) (.s (.slice none 0 0)) h k = k (.s (.bool true)) := by kernel_rfl
@[simp] theorem eqn_37_true {β : Type} (h : Hp) (k : K β) : eqK Try.prog true 37 (.s (.slice none 0 0)) (.s (.slice none 0 0)) h k = k (.s (.bool false)) := by kernel_rfl
@[simp] theorem eqs_31 {β : Type} (neq : Bool) (a0 : Int) (a1 : Int) (a2 : Int) (a3 : Int) (a4 : Int) (a5 : Int) (a6 : Int) (b0 : Int) (b1 : Int) (b2 : Int) (b3 : Int) (b4 : Int) (b5 : Int) (b6 : Int) (h : Hp) (k : K β) : eqK Try.prog neq 31 (.agg [.s (.int .i64 a0), .s (.int .i64 a1), .s (.int .i64 a2), .s (.int .i64 a3), .s (.int .i64 a4), .s (.int .i64 a5), .s (.int .i64 a6)]) (.agg [.s (.int .i64 b0), .s (.int .i64 b1), .s (.int .i64 b2), .s (.int .i64 b3), .s (.int .i64 b4), .s (.int .i64 b5), .s (.int .i64 b6)]) h k = k (.s (.bool (xor neq ((a0 == b0) && ((a1 == b1) && ((a2 == b2) && ((a3 == b3) && ((a4 == b4) && ((a5 == b5) && ((a6 == b6) && (true))))))))))) := by
  have e1 : Try.prog.eqGuardType Try.prog.depth 31 = false := by kernel_rfl
  have e2 : aggT Try.prog 31 = true := by kernel_rfl
  have e3 : eqFlat Try.prog 8 31 [.s (.int .i64 a0), .s (.int .i64 a1), .s (.int .i64 a2), .s (.int .i64 a3), .s (.int .i64 a4), .s (.int .i64 a5), .s (.int .i64 a6)] [.s (.int .i64 b0), .s (.int .i64 b1), .s (.int .i64 b2), .s (.int .i64 b3), .s (.int .i64 b4), .s (.int .i64 b5), .s (.int .i64 b6)] = some ((a0 == b0) && ((a1 == b1) && ((a2 == b2) && ((a3 == b3) && ((a4 == b4) && ((a5 == b5) && ((a6 == b6) && (true)))))))) := by kernel_rfl
  simp only [eqK, e1, e2, e3]
@[simp] theorem eqs_33 {β : Type} (neq : Bool) (a0 : Int) (a1 : Int) (a2 : Int) (a3 : Int) (a4 : Int) (a5 : Int) (a6 : Int) (a7 : Int) (a8 : Int) (a9 : Int) (b0 : Int) (b1 : Int) (b2 : Int) (b3 : Int) (b4 : Int) (b5 : Int) (b6 : Int) (b7 : Int) (b8 : Int) (b9 : Int) (h : Hp) (k : K β) : eqK Try.prog neq 33 (.agg [.s (.int .i64 a0), .s (.int .i64 a1), .s (.int .i64 a2), .s (.int .i64 a3), .s (.int .i64 a4), .s (.int .i64 a5), .s (.int .i64 a6), .s (.int .i64 a7), .s (.int .i64 a8), .s (.int .i64 a9)]) (.agg [.s (.int .i64 b0), .s (.int .i64 b1), .s (.int .i64 b2), .s (.int .i64 b3), .s (.int .i64 b4), .s (.int .i64 b5), .s (.int .i64 b6), .s (.int .i64 b7), .s (.int .i64 b8), .s (.int .i64 b9)]) h k = k (.s (.bool (xor neq ((a0 == b0) && ((a1 == b1) && ((a2 == b2) && (((a3 == b3) && ((a4 == b4) && ((a5 == b5) && ((a6 == b6) && ((a7 == b7) && ((a8 == b8) && ((a9 == b9) && (true)))))))) && (true)))))))) := by
  have e1 : Try.prog.eqGuardType Try.prog.depth 33 = false := by kernel_rfl
  have e2 : aggT Try.prog 33 = true := by kernel_rfl
  have e3 : eqFlat Try.prog 8 33 [.s (.int .i64 a0), .s (.int .i64 a1), .s (.int .i64 a2), .s (.int .i64 a3), .s (.int .i64 a4), .s (.int .i64 a5), .s (.int .i64 a6), .s (.int .i64 a7), .s (.int .i64 a8), .s (.int .i64 a9)] [.s (.int .i64 b0), .s (.int .i64 b1), .s (.int .i64 b2), .s (.int .i64 b3), .s (.int .i64 b4), .s (.int .i64 b5), .s (.int .i64 b6), .s (.int .i64 b7), .s (.int .i64 b8), .s (.int .i64 b9)] = some ((a0 == b0) && ((a1 == b1) && ((a2 == b2) && (((a3 == b3) && ((a4 == b4) && ((a5 == b5) && ((a6 == b6) && ((a7 == b7) && ((a8 == b8) && ((a9 == b9) && (true)))))))) && (true))))) := by kernel_rfl
  simp only [eqK, e1, e2, e3]
@[simp] theorem eqs_67 {β : Type} (neq : Bool) (a0 : Int) (a1 : Int) (a2 : Int) (a3 : Int) (a4 : Int) (a5 : Int) (a6 : Int) (b0 : Int) (b1 : Int) (b2 : Int) (b3 : Int) (b4 : Int) (b5 : Int) (b6 : Int) (h : Hp) (k : K β) : eqK Try.prog neq 67 (.agg [.s (.int .i64 a0), .s (.int .i64 a1), .s (.int .i64 a2), .s (.int .i64 a3), .s (.int .i64 a4), .s (.int .i64 a5), .s (.int .i64 a6)]) (.agg [.s (.int .i64 b0), .s (.int .i64 b1), .s (.int .i64 b2), .s (.int .i64 b3), .s (.int .i64 b4), .s (.int .i64 b5), .s (.int .i64 b6)]) h k = k (.s (.bool (xor neq ((a0 == b0) && ((a1 == b1) && ((a2 == b2) && ((a3 == b3) && ((a4 == b4) && ((a5 == b5) && ((a6 == b6) && (true))))))))))) := by
  have e1 : Try.prog.eqGuardType Try.prog.depth 67 = false := by kernel_rfl
  have e2 : aggT Try.prog 67 = true := by kernel_rfl
  have e3 : eqFlat Try.prog 8 67 [.s (.int .i64 a0), .s (.int .i64 a1), .s (.int .i64 a2), .s (.int .i64 a3), .s (.int .i64 a4), .s (.int .i64 a5), .s (.int .i64 a6)] [.s (.int .i64 b0), .s (.int .i64 b1), .s (.int .i64 b2), .s (.int .i64 b3), .s (.int .i64 b4), .s (.int .i64 b5), .s (.int .i64 b6)] = some ((a0 == b0) && ((a1 == b1) && ((a2 == b2) && ((a3 == b3) && ((a4 == b4) && ((a5 == b5) && ((a6 == b6) && (true)))))))) := by kernel_rfl
  simp only [eqK, e1, e2, e3]
noncomputable def f_law41_NetworkCounts (P : Program) (T : Tab) (D : DTab) (N : Nat) {β : Type} (K : AV → Hp → Option β) (a0 : AV) (a1 : AV) (h : Hp) : Option β :=
callK (T 10) [] h fun x1 h2 =>
notK x1 fun x3 =>
condK x3 (
K (.s (.bool false)) h2) (
callK (T 11) [a0, a1] h2 fun x4 h5 =>
notK x4 fun x6 =>
condK x6 (
K (.s (.bool true)) h5) (
callK (T 13) [a0] h5 fun x7 h8 =>
callK (T 16) [a1] h8 fun x9 h10 =>
callK (T 22) [x7, x9] h10 fun x11 h12 =>
exK x11 0 fun x13 =>
exK x11 1 fun x14 =>
callK (T 23) [a0, a1] h12 fun x15 h16 =>
exK x15 0 fun x17 =>
exK x15 1 fun x18 =>
callK (T 13) [a0] h16 fun x19 h20 =>
callK (T 16) [a1] h20 fun x21 h22 =>
callK (T 24) [x19, x21] h22 fun x23 h24 =>
exK x23 0 fun x25 =>
exK x23 1 fun x26 =>
callK (T 25) [a0, a1] h24 fun x27 h28 =>
exK x27 0 fun x29 =>
exK x27 1 fun x30 =>
callK (T 13) [a0] h28 fun x31 h32 =>
callK (T 16) [a1] h32 fun x33 h34 =>
callK (T 26) [x31, x33] h34 fun x35 h36 =>
exK x35 0 fun x37 =>
exK x35 1 fun x38 =>
callK (T 27) [a0, a1] h36 fun x39 h40 =>
exK x39 0 fun x41 =>
exK x39 1 fun x42 =>
callK (T 28) [x13, x17] h40 fun x43 h44 =>
grpK true x43 h44 (fun k45 =>
eqK P false 26 x14 x18 h44 fun x46 =>
k45 x46 h44) fun x47 h48 =>
grpK true x47 h48 (fun k49 =>
eqK P false 3 x25 x29 h48 fun x50 =>
k49 x50 h48) fun x51 h52 =>
grpK true x51 h52 (fun k53 =>
eqK P false 26 x26 x30 h52 fun x54 =>
k53 x54 h52) fun x55 h56 =>
grpK true x55 h56 (fun k57 =>
eqK P false 3 x37 x41 h56 fun x58 =>
k57 x58 h56) fun x59 h60 =>
grpK true x59 h60 (fun k61 =>
eqK P false 26 x38 x42 h60 fun x62 =>
k61 x62 h60) fun x63 h64 =>
K x63 h64))
theorem f_law41_NetworkCounts_run (T : Tab) (D : DTab) (N : Nat) {β : Type} (K : AV → Hp → Option β) (a0 : AV) (a1 : AV) (h : Hp) : runK Try.prog T D N [0, 1, 4, 5, 6, 7, 8, 9, 10, 11, 12, 13, 14, 15, 16, 18, 22] Try.f4 K [a0, a1] h = f_law41_NetworkCounts Try.prog T D N K a0 a1 h := by kernel_rfl
noncomputable def f_law41_awake (P : Program) (T : Tab) (D : DTab) (N : Nat) {β : Type} (K : AV → Hp → Option β) (h : Hp) : Option β :=
effK (bsE 1 [.s (.int .i64 0)] 3 [(0, (.s (.int .i64 2))), (1, (.s (.int .i64 0))), (2, (.s (.int .i64 2)))] (List.length h)) h fun x1 h2 =>
callK (T 45) [] h2 fun x3 h4 =>
callK (T 15) [x3, x1, (.s (.int .i64 2))] h4 fun x5 h6 =>
exK x5 0 fun x7 =>
exK x5 1 fun x8 =>
callK (T 45) [] h6 fun x9 h10 =>
callK (T 22) [x9, x1] h10 fun x11 h12 =>
exK x11 0 fun x13 =>
exK x11 1 fun x14 =>
callK (T 45) [] h12 fun x15 h16 =>
callK (T 24) [x15, x1] h16 fun x17 h18 =>
exK x17 0 fun x19 =>
exK x17 1 fun x20 =>
callK (T 45) [] h18 fun x21 h22 =>
callK (T 26) [x21, x1] h22 fun x23 h24 =>
exK x23 0 fun x25 =>
exK x23 1 fun x26 =>
callK (T 45) [] h24 fun x27 h28 =>
callK (T 18) [x27, x1, (.s (.int .i64 2))] h28 fun x29 h30 =>
exK x29 0 fun x31 =>
exK x29 1 fun x32 =>
lenK x7 fun x33 =>
eqK P false 3 x33 (.s (.int .i64 3)) h30 fun x34 =>
grpK true x34 h30 (fun k35 =>
iaK 10 x7 (.s (.int .i64 0)) fun x36 =>
faK 2 x36 fun x37 =>
ldK 1 false x37 h30 fun x38 =>
eqK P false 3 x38 (.s (.int .i64 3)) h30 fun x39 =>
k35 x39 h30) fun x40 h41 =>
grpK true x40 h41 (fun k42 =>
iaK 10 x7 (.s (.int .i64 1)) fun x43 =>
faK 2 x43 fun x44 =>
ldK 1 false x44 h41 fun x45 =>
eqK P false 3 x45 (.s (.int .i64 1)) h41 fun x46 =>
k42 x46 h41) fun x47 h48 =>
grpK true x47 h48 (fun k49 =>
effK (bsE 1 [.s (.int .i64 0)] 1 [(0, (.s (.int .i64 1)))] (List.length h48)) h48 fun x50 h51 =>
callK (T 46) [x13, x50] h51 fun x52 h53 =>
k49 x52 h53) fun x54 h55 =>
grpK true x54 h55 (fun k56 =>
eqK P false 3 x19 (.s (.int .i64 1)) h55 fun x57 =>
k56 x57 h55) fun x58 h59 =>
grpK true x58 h59 (fun k60 =>
eqK P false 3 x25 (.s (.int .i64 1)) h59 fun x61 =>
k60 x61 h59) fun x62 h63 =>
grpK true x62 h63 (fun k64 =>
lenK x31 fun x65 =>
eqK P false 3 x65 (.s (.int .i64 2)) h63 fun x66 =>
k64 x66 h63) fun x67 h68 =>
grpK true x67 h68 (fun k69 =>
arithK .add x8 x14 fun x70 =>
arithK .add x70 x20 fun x71 =>
arithK .add x71 x26 fun x72 =>
arithK .add x72 x32 fun x73 =>
eqK P false 26 x73 (.s (.int .i64 0)) h68 fun x74 =>
k69 x74 h68) fun x75 h76 =>
K x75 h76
theorem f_law41_awake_run (T : Tab) (D : DTab) (N : Nat) {β : Type} (K : AV → Hp → Option β) (h : Hp) : runK Try.prog T D N [0, 1, 2, 3, 4, 5, 6, 7, 8, 9, 10, 11] Try.f10 K [] h = f_law41_awake Try.prog T D N K  h := by kernel_rfl
noncomputable def f_ref41_Few (P : Program) (T : Tab) (D : DTab) (N : Nat) {β : Type} (K : AV → Hp → Option β) (a0 : AV) (a1 : AV) (h : Hp) : Option β :=
lenK a0 fun x1 =>
arithK .leq x1 (.s (.int .i64 14)) fun x2 =>
grpK false x2 h (fun k3 =>
lenK a0 fun x4 =>
eqK P false 3 x4 (.s (.int .i64 65)) h fun x5 =>
k3 x5 h) fun x6 h7 =>
grpK true x6 h7 (fun k8 =>
lenK a1 fun x9 =>
arithK .leq x9 (.s (.int .i64 24)) fun x10 =>
grpK false x10 h7 (fun k11 =>
lenK a1 fun x12 =>
eqK P false 3 x12 (.s (.int .i64 257)) h7 fun x13 =>
k11 x13 h7) fun x14 h15 =>
k8 x14 h15) fun x16 h17 =>
K x16 h17
theorem f_ref41_Few_run (T : Tab) (D : DTab) (N : Nat) {β : Type} (K : AV → Hp → Option β) (a0 : AV) (a1 : AV) (h : Hp) : runK Try.prog T D N [0, 1, 4] Try.f11 K [a0, a1] h = f_ref41_Few Try.prog T D N K a0 a1 h := by kernel_rfl
noncomputable def o_network_Check_j1 (P : Program) (T : Tab) (D : DTab) (N : Nat) {β : Type} (K : AV → Hp → Option β) (t : Tm) (h : Hp) : Option β :=
K (.tup [(.s (.int .i64 (-1))), (.s (.int .i64 0))]) h
noncomputable def o_network_Check_L2 (P : Program) (T : Tab) (D : DTab) (N : Nat) {β : Type} (t : Tm) (h : Hp) (k : Ex → St → Option β) : Option β :=
arithK .lss (t 13) (t 12) fun x6 =>
condK x6 (
iaK 10 (t 11) (t 13) fun x7 =>
ldK 10 true x7 h fun x8 =>
effK (boxE 10 (.agg [.s (.int .i64 0), .s (.int .i64 0), .s (.int .i64 0), .s (.int .i64 0), .s (.int .i64 0), .s (.int .i64 0), .s (.int .i64 0), .s (.int .i64 0), .s (.int .i64 0), .s (.int .i64 0)]) (List.length h)) h fun x9 h10 =>
effK (stE 10 x9 x8 h10) h10 fun x11 h12 =>
faK 0 x9 fun x13 =>
ldK 1 false x13 h12 fun x14 =>
arithK .lss x14 (.s (.int .i64 1)) fun x15 =>
grpK false x15 h12 (fun k16 =>
faK 0 x9 fun x17 =>
ldK 1 false x17 h12 fun x18 =>
arithK .gtr x18 (.s (.int .i64 99)) fun x19 =>
k16 x19 h12) fun x20 h21 =>
grpK false x20 h21 (fun k22 =>
faK 1 x9 fun x23 =>
ldK 1 false x23 h21 fun x24 =>
arithK .lss x24 (.s (.int .i64 1)) fun x25 =>
k22 x25 h21) fun x26 h27 =>
grpK false x26 h27 (fun k28 =>
faK 1 x9 fun x29 =>
ldK 1 false x29 h27 fun x30 =>
arithK .gtr x30 (.s (.int .i64 99)) fun x31 =>
k28 x31 h27) fun x32 h33 =>
grpK false x32 h33 (fun k34 =>
faK 2 x9 fun x35 =>
ldK 1 false x35 h33 fun x36 =>
arithK .lss x36 (.s (.int .i64 1)) fun x37 =>
k34 x37 h33) fun x38 h39 =>
grpK false x38 h39 (fun k40 =>
faK 2 x9 fun x41 =>
ldK 1 false x41 h39 fun x42 =>
arithK .gtr x42 (.s (.int .i64 1073741824)) fun x43 =>
k40 x43 h39) fun x44 h45 =>
condK x44 (
k .ret ((upd (upd (upd (upd (upd (upd t 14 x6) 6 x9) 5 (t 13)) 18 x44) 2 (t 13)) 3 (.s (.int .i64 2))), h45)) (
faK 0 x9 fun x46 =>
ldK 1 false x46 h45 fun x47 =>
faK 1 x9 fun x48 =>
ldK 1 false x48 h45 fun x49 =>
eqK P false 3 x47 x49 h45 fun x50 =>
condK x50 (
k .ret ((upd (upd (upd (upd (upd (upd (upd t 14 x6) 6 x9) 5 (t 13)) 18 x44) 48 x50) 2 (t 13)) 3 (.s (.int .i64 10))), h45)) (
faK 3 x9 fun x51 =>
ldK 7 true x51 h45 fun x52 =>
callK (T 47) [x52] h45 fun x53 h54 =>
eqK P true 26 x53 (.s (.int .i64 0)) h54 fun x55 =>
condK x55 (
k .ret ((upd (upd (upd (upd (upd (upd (upd (upd t 14 x6) 6 x9) 5 (t 13)) 18 x44) 48 x50) 55 x55) 2 (t 13)) 3 (.s (.int .i64 1))), h54)) (
faK 0 x9 fun x56 =>
ldK 1 false x56 h54 fun x57 =>
faK 2 x9 fun x58 =>
ldK 1 false x58 h54 fun x59 =>
buildK [.s (.int .i64 0), .s (.int .i64 0)] [(some (0, 1), x57), (some (1, 1), x59)] fun x60 =>
lookK P 73 (.s (.bool false)) false (t 4) x60 h54 fun x61 =>
condK x61 (
k .ret ((upd (upd (upd (upd (upd (upd (upd (upd (upd t 14 x6) 6 x9) 5 (t 13)) 18 x44) 48 x50) 55 x55) 61 x61) 2 (t 13)) 3 (.s (.int .i64 6))), h54)) (
faK 0 x9 fun x62 =>
ldK 1 false x62 h54 fun x63 =>
faK 2 x9 fun x64 =>
ldK 1 false x64 h54 fun x65 =>
buildK [.s (.int .i64 0), .s (.int .i64 0)] [(some (0, 1), x63), (some (1, 1), x65)] fun x66 =>
effK (mupE P 73 (t 4) x66 (.s (.bool true)) h54) h54 fun x67 h68 =>
arithK .add (t 13) (.s (.int .i64 1)) fun x69 =>
k .normal ((upd (upd (upd (upd (upd (upd (upd (upd t 14 x6) 6 x9) 5 (t 13)) 18 x44) 48 x50) 55 x55) 61 x61) 13 x69), h68)))))) (
k (.exit 0) ((upd t 14 x6), h))
noncomputable def o_network_Check_aL2 (P : Program) (T : Tab) (D : DTab) (N : Nat) {β : Type} (K : AV → Hp → Option β) (e : Ex) (s : St) : Option β :=
  e.on ((o_network_Check_j1 P T D N K s.1 s.2))
  (fun i => bif i == 0 then ((o_network_Check_j1 P T D N K s.1 s.2)) else (none))
  (K (.tup [(s.1 2), (s.1 3)]) s.2)
noncomputable def o_network_Check_G (P : Program) (T : Tab) (D : DTab) (N : Nat) {β : Type} (cL2 : St → Option β) (K : AV → Hp → Option β) (a0 : AV) (h : Hp) :  Option β :=
lenK a0 fun x1 =>
arithK .gtr x1 (.s (.int .i64 64)) fun x2 =>
condK x2 (
K (.tup [(.s (.int .i64 (-1))), (.s (.int .i64 8))]) h) (
effK (some (.mp (List.length h), EN (.map []))) h fun x3 h4 =>
lenK a0 fun x5 =>
cL2 ((upd (upd (upd (upd (upd (upd (upd (tm0 [a0]) 2 (.s (.int .i64 0))) 3 (.s (.int .i64 0))) 9 x2) 4 x3) 11 a0) 12 x5) 13 (.s (.int .i64 0))), h4))
noncomputable def o_network_Check (P : Program) (T : Tab) (D : DTab) (N : Nat) {β : Type} (K : AV → Hp → Option β) (a0 : AV) (h : Hp) : Option β := o_network_Check_G P T D N (fun s => iterK (fun s k => o_network_Check_L2 P T D N s.1 s.2 k) N s (o_network_Check_aL2 P T D N K)) K a0 h
noncomputable def f_network_Check_j1 (P : Program) (T : Tab) (D : DTab) (N : Nat) {β : Type} (K : AV → Hp → Option β) (h : Hp) : Option β :=
K (.tup [(.s (.int .i64 (-1))), (.s (.int .i64 0))]) h
noncomputable def f_network_Check_b2 (P : Program) (T : Tab) (D : DTab) (N : Nat) {β : Type} (xn : AV → AV → AV → AV → Hp → Option β) (x0 : Hp → Option β) (xr : AV → AV → Hp → Option β) (v4 : AV) (v11 : AV) (v12 : AV) (v13 : AV) (h : Hp) : Option β :=
arithK .lss v13 v12 fun x6 =>
condK x6 (
iaK 10 v11 v13 fun x7 =>
ldK 10 true x7 h fun x8 =>
effK (boxE 10 (.agg [.s (.int .i64 0), .s (.int .i64 0), .s (.int .i64 0), .s (.int .i64 0), .s (.int .i64 0), .s (.int .i64 0), .s (.int .i64 0), .s (.int .i64 0), .s (.int .i64 0), .s (.int .i64 0)]) (List.length h)) h fun x9 h10 =>
effK (stE 10 x9 x8 h10) h10 fun x11 h12 =>
faK 0 x9 fun x13 =>
ldK 1 false x13 h12 fun x14 =>
arithK .lss x14 (.s (.int .i64 1)) fun x15 =>
grpK false x15 h12 (fun k16 =>
faK 0 x9 fun x17 =>
ldK 1 false x17 h12 fun x18 =>
arithK .gtr x18 (.s (.int .i64 99)) fun x19 =>
k16 x19 h12) fun x20 h21 =>
grpK false x20 h21 (fun k22 =>
faK 1 x9 fun x23 =>
ldK 1 false x23 h21 fun x24 =>
arithK .lss x24 (.s (.int .i64 1)) fun x25 =>
k22 x25 h21) fun x26 h27 =>
grpK false x26 h27 (fun k28 =>
faK 1 x9 fun x29 =>
ldK 1 false x29 h27 fun x30 =>
arithK .gtr x30 (.s (.int .i64 99)) fun x31 =>
k28 x31 h27) fun x32 h33 =>
grpK false x32 h33 (fun k34 =>
faK 2 x9 fun x35 =>
ldK 1 false x35 h33 fun x36 =>
arithK .lss x36 (.s (.int .i64 1)) fun x37 =>
k34 x37 h33) fun x38 h39 =>
grpK false x38 h39 (fun k40 =>
faK 2 x9 fun x41 =>
ldK 1 false x41 h39 fun x42 =>
arithK .gtr x42 (.s (.int .i64 1073741824)) fun x43 =>
k40 x43 h39) fun x44 h45 =>
condK x44 (
xr v13 (.s (.int .i64 2)) h45) (
faK 0 x9 fun x46 =>
ldK 1 false x46 h45 fun x47 =>
faK 1 x9 fun x48 =>
ldK 1 false x48 h45 fun x49 =>
eqK P false 3 x47 x49 h45 fun x50 =>
condK x50 (
xr v13 (.s (.int .i64 10)) h45) (
faK 3 x9 fun x51 =>
ldK 7 true x51 h45 fun x52 =>
callK (T 47) [x52] h45 fun x53 h54 =>
eqK P true 26 x53 (.s (.int .i64 0)) h54 fun x55 =>
condK x55 (
xr v13 (.s (.int .i64 1)) h54) (
faK 0 x9 fun x56 =>
ldK 1 false x56 h54 fun x57 =>
faK 2 x9 fun x58 =>
ldK 1 false x58 h54 fun x59 =>
buildK [.s (.int .i64 0), .s (.int .i64 0)] [(some (0, 1), x57), (some (1, 1), x59)] fun x60 =>
lookK P 73 (.s (.bool false)) false v4 x60 h54 fun x61 =>
condK x61 (
xr v13 (.s (.int .i64 6)) h54) (
faK 0 x9 fun x62 =>
ldK 1 false x62 h54 fun x63 =>
faK 2 x9 fun x64 =>
ldK 1 false x64 h54 fun x65 =>
buildK [.s (.int .i64 0), .s (.int .i64 0)] [(some (0, 1), x63), (some (1, 1), x65)] fun x66 =>
effK (mupE P 73 v4 x66 (.s (.bool true)) h54) h54 fun x67 h68 =>
arithK .add v13 (.s (.int .i64 1)) fun x69 =>
xn v4 v11 v12 x69 h68))))) (
x0 h)
noncomputable def f_network_Check_L2 (P : Program) (T : Tab) (D : DTab) (N : Nat) {β : Type} (x0 : Hp → Option β) (xr : AV → AV → Hp → Option β) : Nat → AV → AV → AV → AV → Hp → Option β
  | 0 => fun _ _ _ _ _ => none
  | n + 1 => fun v4 v11 v12 v13 h => f_network_Check_b2 P T D N (f_network_Check_L2 P T D N x0 xr n) x0 xr v4 v11 v12 v13 h
noncomputable def f_network_Check (P : Program) (T : Tab) (D : DTab) (N : Nat) {β : Type} (K : AV → Hp → Option β) (a0 : AV) (h : Hp) : Option β :=
lenK a0 fun x1 =>
arithK .gtr x1 (.s (.int .i64 64)) fun x2 =>
condK x2 (
K (.tup [(.s (.int .i64 (-1))), (.s (.int .i64 8))]) h) (
effK (some (.mp (List.length h), EN (.map []))) h fun x3 h4 =>
lenK a0 fun x5 =>
f_network_Check_L2 P T D N (fun h => f_network_Check_j1 P T D N K h) (fun w71_2 w71_3 h => K (.tup [w71_2, w71_3]) h) N x3 a0 x5 (.s (.int .i64 0)) h4)
theorem f_network_Check_b2_eq (P : Program) (T : Tab) (D : DTab) (N : Nat) {β : Type} (xn : AV → AV → AV → AV → Hp → Option β) (x0 : Hp → Option β) (xr : AV → AV → Hp → Option β) (xd : Nat → St → Option β) (xq : St → Option β) (t : Tm) (h : Hp) : o_network_Check_L2 P T D N t h (fun (e : Ex) (s : St) => e.on (xn (s.1 4) (s.1 11) (s.1 12) (s.1 13) s.2) (fun i => (bif i == 0 then x0 s.2 else (xd i s))) (xr (s.1 2) (s.1 3) s.2)) = f_network_Check_b2 P T D N xn x0 xr (t 4) (t 11) (t 12) (t 13) h := by kernel_rfl
theorem f_network_Check_L2_eq (P : Program) (T : Tab) (D : DTab) (N : Nat) {β : Type} (A : Ex → St → Option β) (x0 : Hp → Option β) (xr : AV → AV → Hp → Option β) (q0 : ∀ s, A (.exit 0) s = x0 s.2) (qr : ∀ s, A .ret s = xr (s.1 2) (s.1 3) s.2) : ∀ (n : Nat) (s : St), iterK (fun s k => o_network_Check_L2 P T D N s.1 s.2 k) n s A = f_network_Check_L2 P T D N x0 xr n (s.1 4) (s.1 11) (s.1 12) (s.1 13) s.2 := by
  intro n
  induction n with
  | zero => intro s; rfl
  | succ n ih =>
    intro s
    have hk : (fun (e : Ex) (s' : St) => Ex.on e (iterK (fun s k => o_network_Check_L2 P T D N s.1 s.2 k) n s' A) (fun i => A (.exit i) s') (A .ret s')) = (fun (e : Ex) (s : St) => e.on ((f_network_Check_L2 P T D N x0 xr n) (s.1 4) (s.1 11) (s.1 12) (s.1 13) s.2) (fun i => (bif i == 0 then x0 s.2 else (A (.exit i) s))) (xr (s.1 2) (s.1 3) s.2)) := by
      funext e s'
      cases e with
      | normal => exact ih s'
      | ret => exact qr s'
      | exit i =>
        by_cases r0 : i = 0
        · subst r0; exact q0 s'
        simp only [Ex.on, beq_false_of_ne r0, cond_false]
    show o_network_Check_L2 P T D N s.1 s.2 (fun (e : Ex) (s' : St) => Ex.on e (iterK (fun s k => o_network_Check_L2 P T D N s.1 s.2 k) n s' A) (fun i => A (.exit i) s') (A .ret s')) = _
    rw [hk]
    exact f_network_Check_b2_eq P T D N (f_network_Check_L2 P T D N x0 xr n) x0 xr (fun i s => A (.exit i) s) (fun s => A .ret s) s.1 s.2
theorem f_network_Check_old_eq (P : Program) (T : Tab) (D : DTab) (N : Nat) {β : Type} (K : AV → Hp → Option β) (a0 : AV) (h : Hp) : o_network_Check P T D N K a0 h = f_network_Check P T D N K a0 h := by
  have eL2 : (fun s : St => iterK (fun s k => o_network_Check_L2 P T D N s.1 s.2 k) N s (o_network_Check_aL2 P T D N K)) = (fun s : St => f_network_Check_L2 P T D N (fun h => f_network_Check_j1 P T D N K h) (fun w71_2 w71_3 h => K (.tup [w71_2, w71_3]) h) N (s.1 4) (s.1 11) (s.1 12) (s.1 13) s.2) := funext fun s => f_network_Check_L2_eq P T D N (o_network_Check_aL2 P T D N K) (fun h => f_network_Check_j1 P T D N K h) (fun w71_2 w71_3 h => K (.tup [w71_2, w71_3]) h) (fun s => rfl) (fun s => rfl) N s
  show o_network_Check_G P T D N (fun s => iterK (fun s k => o_network_Check_L2 P T D N s.1 s.2 k) N s (o_network_Check_aL2 P T D N K)) K a0 h = _
  rw [eL2]
  kernel_rfl
theorem o_network_Check_run (T : Tab) (D : DTab) (N : Nat) {β : Type} (K : AV → Hp → Option β) (a0 : AV) (h : Hp) : runK Try.prog T D N [0, 2, 3, 4, 5, 6, 9, 11, 12, 13, 14, 18, 48, 55, 61] Try.f12 K [a0] h = o_network_Check Try.prog T D N K a0 h := by kernel_rfl
theorem f_network_Check_run (T : Tab) (D : DTab) (N : Nat) {β : Type} (K : AV → Hp → Option β) (a0 : AV) (h : Hp) : runK Try.prog T D N [0, 2, 3, 4, 5, 6, 9, 11, 12, 13, 14, 18, 48, 55, 61] Try.f12 K [a0] h = f_network_Check Try.prog T D N K a0 h := (o_network_Check_run T D N K a0 h).trans (f_network_Check_old_eq Try.prog T D N K a0 h)
noncomputable def f_slices_Clone_Envelope (P : Program) (T : Tab) (D : DTab) (N : Nat) {β : Type} (K : AV → Hp → Option β) (a0 : AV) (h : Hp) : Option β :=
eqK P false 22 a0 (.s (.slice none 0 0)) h fun x1 =>
condK x1 (
K (.s (.slice none 0 0)) h) (
effK (bsE 10 [.s (.int .i64 0), .s (.int .i64 0), .s (.int .i64 0), .s (.int .i64 0), .s (.int .i64 0), .s (.int .i64 0), .s (.int .i64 0), .s (.int .i64 0), .s (.int .i64 0), .s (.int .i64 0)] 0 [] (List.length h)) h fun x2 h3 =>
effK (appE 10 80 x2 a0 h3 (List.length h3)) h3 fun x4 h5 =>
K x4 h5)
theorem f_slices_Clone_Envelope_run (T : Tab) (D : DTab) (N : Nat) {β : Type} (K : AV → Hp → Option β) (a0 : AV) (h : Hp) : runK Try.prog T D N [0, 2, 4] Try.f13 K [a0] h = f_slices_Clone_Envelope Try.prog T D N K a0 h := by kernel_rfl
noncomputable def o_ref41_Check_j1 (P : Program) (T : Tab) (D : DTab) (N : Nat) {β : Type} (K : AV → Hp → Option β) (t : Tm) (h : Hp) : Option β :=
K (.tup [(.s (.int .i64 (-1))), (.s (.int .i64 0))]) h
noncomputable def o_ref41_Check_j3 (P : Program) (T : Tab) (D : DTab) (N : Nat) {β : Type} (k : Ex → St → Option β) (t : Tm) (h : Hp) : Option β :=
arithK .add (t 4) (.s (.int .i64 1)) fun x5 =>
k .normal ((upd t 4 x5), h)
noncomputable def o_ref41_Check_j4 (P : Program) (T : Tab) (D : DTab) (N : Nat) {β : Type} (k : Ex → St → Option β) (t : Tm) (h : Hp) : Option β :=
(o_ref41_Check_j3 P T D N k t h)
noncomputable def o_ref41_Check_L5 (P : Program) (T : Tab) (D : DTab) (N : Nat) {β : Type} (t : Tm) (h : Hp) (k : Ex → St → Option β) : Option β :=
arithK .lss (t 6) (t 4) fun x11 =>
condK x11 (
iaK 10 (t 0) (t 6) fun x12 =>
faK 0 x12 fun x13 =>
ldK 1 false x13 h fun x14 =>
iaK 10 (t 0) (t 4) fun x15 =>
faK 0 x15 fun x16 =>
ldK 1 false x16 h fun x17 =>
eqK P false 3 x14 x17 h fun x18 =>
grpK true x18 h (fun k19 =>
iaK 10 (t 0) (t 6) fun x20 =>
faK 2 x20 fun x21 =>
ldK 1 false x21 h fun x22 =>
iaK 10 (t 0) (t 4) fun x23 =>
faK 2 x23 fun x24 =>
ldK 1 false x24 h fun x25 =>
eqK P false 3 x22 x25 h fun x26 =>
k19 x26 h) fun x27 h28 =>
condK x27 (
k .ret ((upd (upd (upd (upd t 27 x11) 53 x27) 2 (t 4)) 3 (.s (.int .i64 6))), h28)) (
arithK .add (t 6) (.s (.int .i64 1)) fun x29 =>
k .normal ((upd (upd (upd t 27 x11) 53 x27) 6 x29), h28))) (
k (.exit 2) ((upd t 27 x11), h))
noncomputable def o_ref41_Check_aL5 (P : Program) (T : Tab) (D : DTab) (N : Nat) {β : Type} (k : Ex → St → Option β) (e : Ex) (s : St) : Option β :=
  e.on ((o_ref41_Check_j4 P T D N k s.1 s.2))
  (fun i => bif i == 2 then ((o_ref41_Check_j4 P T D N k s.1 s.2)) else (bif i == 1 then ((o_ref41_Check_j3 P T D N k s.1 s.2)) else (k (.exit i) (s.1, s.2))))
  (k .ret (s.1, s.2))
noncomputable def o_ref41_Check_L2_G (P : Program) (T : Tab) (D : DTab) (N : Nat) {β : Type} (cL5 : St → Option β) (t : Tm) (h : Hp) (k : Ex → St → Option β) :  Option β :=
lenK (t 0) fun x3 =>
arithK .lss (t 4) x3 fun x4 =>
condK x4 (
iaK 10 (t 0) (t 4) fun x6 =>
ldK 10 true x6 h fun x7 =>
callK (T 48) [x7] h fun x8 h9 =>
eqK P true 26 x8 (.s (.int .i64 0)) h9 fun x10 =>
condK x10 (
k .ret ((upd (upd (upd (upd (upd t 13 x4) 5 x8) 22 x10) 2 (t 4)) 3 x8), h9)) (
cL5 ((upd (upd (upd (upd t 13 x4) 5 x8) 22 x10) 6 (.s (.int .i64 0))), h9))) (
k (.exit 0) ((upd t 13 x4), h))
noncomputable def o_ref41_Check_L2 (P : Program) (T : Tab) (D : DTab) (N : Nat) {β : Type} (t : Tm) (h : Hp) (k : Ex → St → Option β) : Option β := o_ref41_Check_L2_G P T D N (fun s => iterK (fun s k => o_ref41_Check_L5 P T D N s.1 s.2 k) N s (o_ref41_Check_aL5 P T D N k)) t h k
noncomputable def o_ref41_Check_aL2 (P : Program) (T : Tab) (D : DTab) (N : Nat) {β : Type} (K : AV → Hp → Option β) (e : Ex) (s : St) : Option β :=
  e.on ((o_ref41_Check_j1 P T D N K s.1 s.2))
  (fun i => bif i == 0 then ((o_ref41_Check_j1 P T D N K s.1 s.2)) else (none))
  (K (.tup [(s.1 2), (s.1 3)]) s.2)
noncomputable def o_ref41_Check_G (P : Program) (T : Tab) (D : DTab) (N : Nat) {β : Type} (cL2 : St → Option β) (K : AV → Hp → Option β) (a0 : AV) (h : Hp) :  Option β :=
lenK a0 fun x1 =>
arithK .gtr x1 (.s (.int .i64 64)) fun x2 =>
condK x2 (
K (.tup [(.s (.int .i64 (-1))), (.s (.int .i64 8))]) h) (
cL2 ((upd (upd (upd (upd (tm0 [a0]) 2 (.s (.int .i64 0))) 3 (.s (.int .i64 0))) 9 x2) 4 (.s (.int .i64 0))), h))
noncomputable def o_ref41_Check (P : Program) (T : Tab) (D : DTab) (N : Nat) {β : Type} (K : AV → Hp → Option β) (a0 : AV) (h : Hp) : Option β := o_ref41_Check_G P T D N (fun s => iterK (fun s k => o_ref41_Check_L2 P T D N s.1 s.2 k) N s (o_ref41_Check_aL2 P T D N K)) K a0 h
noncomputable def f_ref41_Check_j1 (P : Program) (T : Tab) (D : DTab) (N : Nat) {β : Type} (K : AV → Hp → Option β) (h : Hp) : Option β :=
K (.tup [(.s (.int .i64 (-1))), (.s (.int .i64 0))]) h
noncomputable def f_ref41_Check_j3 (P : Program) (T : Tab) (D : DTab) (N : Nat) {β : Type} (xn : AV → AV → Hp → Option β) (x0 : Hp → Option β) (xr : AV → AV → Hp → Option β) (v0 : AV) (v4 : AV) (h : Hp) : Option β :=
arithK .add v4 (.s (.int .i64 1)) fun x5 =>
xn v0 x5 h
noncomputable def f_ref41_Check_j4 (P : Program) (T : Tab) (D : DTab) (N : Nat) {β : Type} (xn : AV → AV → Hp → Option β) (x0 : Hp → Option β) (xr : AV → AV → Hp → Option β) (v0 : AV) (v4 : AV) (h : Hp) : Option β :=
f_ref41_Check_j3 P T D N xn x0 xr v0 v4 h
noncomputable def f_ref41_Check_b5 (P : Program) (T : Tab) (D : DTab) (N : Nat) {β : Type} (xn : AV → AV → AV → Hp → Option β) (x2 : AV → AV → Hp → Option β) (xr : AV → AV → Hp → Option β) (v0 : AV) (v4 : AV) (v6 : AV) (h : Hp) : Option β :=
arithK .lss v6 v4 fun x11 =>
condK x11 (
iaK 10 v0 v6 fun x12 =>
faK 0 x12 fun x13 =>
ldK 1 false x13 h fun x14 =>
iaK 10 v0 v4 fun x15 =>
faK 0 x15 fun x16 =>
ldK 1 false x16 h fun x17 =>
eqK P false 3 x14 x17 h fun x18 =>
grpK true x18 h (fun k19 =>
iaK 10 v0 v6 fun x20 =>
faK 2 x20 fun x21 =>
ldK 1 false x21 h fun x22 =>
iaK 10 v0 v4 fun x23 =>
faK 2 x23 fun x24 =>
ldK 1 false x24 h fun x25 =>
eqK P false 3 x22 x25 h fun x26 =>
k19 x26 h) fun x27 h28 =>
condK x27 (
xr v4 (.s (.int .i64 6)) h28) (
arithK .add v6 (.s (.int .i64 1)) fun x29 =>
xn v0 v4 x29 h28)) (
x2 v0 v4 h)
noncomputable def f_ref41_Check_L5 (P : Program) (T : Tab) (D : DTab) (N : Nat) {β : Type} (x2 : AV → AV → Hp → Option β) (xr : AV → AV → Hp → Option β) : Nat → AV → AV → AV → Hp → Option β
  | 0 => fun _ _ _ _ => none
  | n + 1 => fun v0 v4 v6 h => f_ref41_Check_b5 P T D N (f_ref41_Check_L5 P T D N x2 xr n) x2 xr v0 v4 v6 h
noncomputable def f_ref41_Check_b2 (P : Program) (T : Tab) (D : DTab) (N : Nat) {β : Type} (xn : AV → AV → Hp → Option β) (x0 : Hp → Option β) (xr : AV → AV → Hp → Option β) (v0 : AV) (v4 : AV) (h : Hp) : Option β :=
lenK v0 fun x3 =>
arithK .lss v4 x3 fun x4 =>
condK x4 (
iaK 10 v0 v4 fun x6 =>
ldK 10 true x6 h fun x7 =>
callK (T 48) [x7] h fun x8 h9 =>
eqK P true 26 x8 (.s (.int .i64 0)) h9 fun x10 =>
condK x10 (
xr v4 x8 h9) (
f_ref41_Check_L5 P T D N (fun w30_0 w30_4 h => f_ref41_Check_j4 P T D N xn x0 xr w30_0 w30_4 h) (fun w31_2 w31_3 h => xr w31_2 w31_3 h) N v0 v4 (.s (.int .i64 0)) h9)) (
x0 h)
noncomputable def f_ref41_Check_L2 (P : Program) (T : Tab) (D : DTab) (N : Nat) {β : Type} (x0 : Hp → Option β) (xr : AV → AV → Hp → Option β) : Nat → AV → AV → Hp → Option β
  | 0 => fun _ _ _ => none
  | n + 1 => fun v0 v4 h => f_ref41_Check_b2 P T D N (f_ref41_Check_L2 P T D N x0 xr n) x0 xr v0 v4 h
noncomputable def f_ref41_Check (P : Program) (T : Tab) (D : DTab) (N : Nat) {β : Type} (K : AV → Hp → Option β) (a0 : AV) (h : Hp) : Option β :=
lenK a0 fun x1 =>
arithK .gtr x1 (.s (.int .i64 64)) fun x2 =>
condK x2 (
K (.tup [(.s (.int .i64 (-1))), (.s (.int .i64 8))]) h) (
f_ref41_Check_L2 P T D N (fun h => f_ref41_Check_j1 P T D N K h) (fun w33_2 w33_3 h => K (.tup [w33_2, w33_3]) h) N a0 (.s (.int .i64 0)) h)
theorem f_ref41_Check_b5_eq (P : Program) (T : Tab) (D : DTab) (N : Nat) {β : Type} (xn : AV → AV → AV → Hp → Option β) (x2 : AV → AV → Hp → Option β) (xr : AV → AV → Hp → Option β) (xd : Nat → St → Option β) (xq : St → Option β) (t : Tm) (h : Hp) : o_ref41_Check_L5 P T D N t h (fun (e : Ex) (s : St) => e.on (xn (s.1 0) (s.1 4) (s.1 6) s.2) (fun i => (bif i == 2 then x2 (s.1 0) (s.1 4) s.2 else (xd i s))) (xr (s.1 2) (s.1 3) s.2)) = f_ref41_Check_b5 P T D N xn x2 xr (t 0) (t 4) (t 6) h := by kernel_rfl
theorem f_ref41_Check_L5_eq (P : Program) (T : Tab) (D : DTab) (N : Nat) {β : Type} (A : Ex → St → Option β) (x2 : AV → AV → Hp → Option β) (xr : AV → AV → Hp → Option β) (q2 : ∀ s, A (.exit 2) s = x2 (s.1 0) (s.1 4) s.2) (qr : ∀ s, A .ret s = xr (s.1 2) (s.1 3) s.2) : ∀ (n : Nat) (s : St), iterK (fun s k => o_ref41_Check_L5 P T D N s.1 s.2 k) n s A = f_ref41_Check_L5 P T D N x2 xr n (s.1 0) (s.1 4) (s.1 6) s.2 := by
  intro n
  induction n with
  | zero => intro s; rfl
  | succ n ih =>
    intro s
    have hk : (fun (e : Ex) (s' : St) => Ex.on e (iterK (fun s k => o_ref41_Check_L5 P T D N s.1 s.2 k) n s' A) (fun i => A (.exit i) s') (A .ret s')) = (fun (e : Ex) (s : St) => e.on ((f_ref41_Check_L5 P T D N x2 xr n) (s.1 0) (s.1 4) (s.1 6) s.2) (fun i => (bif i == 2 then x2 (s.1 0) (s.1 4) s.2 else (A (.exit i) s))) (xr (s.1 2) (s.1 3) s.2)) := by
      funext e s'
      cases e with
      | normal => exact ih s'
      | ret => exact qr s'
      | exit i =>
        by_cases r2 : i = 2
        · subst r2; exact q2 s'
        simp only [Ex.on, beq_false_of_ne r2, cond_false]
    show o_ref41_Check_L5 P T D N s.1 s.2 (fun (e : Ex) (s' : St) => Ex.on e (iterK (fun s k => o_ref41_Check_L5 P T D N s.1 s.2 k) n s' A) (fun i => A (.exit i) s') (A .ret s')) = _
    rw [hk]
    exact f_ref41_Check_b5_eq P T D N (f_ref41_Check_L5 P T D N x2 xr n) x2 xr (fun i s => A (.exit i) s) (fun s => A .ret s) s.1 s.2
theorem f_ref41_Check_b2_eq (P : Program) (T : Tab) (D : DTab) (N : Nat) {β : Type} (xn : AV → AV → Hp → Option β) (x0 : Hp → Option β) (xr : AV → AV → Hp → Option β) (xd : Nat → St → Option β) (xq : St → Option β) (t : Tm) (h : Hp) : o_ref41_Check_L2 P T D N t h (fun (e : Ex) (s : St) => e.on (xn (s.1 0) (s.1 4) s.2) (fun i => (bif i == 0 then x0 s.2 else (xd i s))) (xr (s.1 2) (s.1 3) s.2)) = f_ref41_Check_b2 P T D N xn x0 xr (t 0) (t 4) h := by
  have eL5 : (fun s : St => iterK (fun s k => o_ref41_Check_L5 P T D N s.1 s.2 k) N s (o_ref41_Check_aL5 P T D N (fun (e : Ex) (s : St) => e.on (xn (s.1 0) (s.1 4) s.2) (fun i => (bif i == 0 then x0 s.2 else (xd i s))) (xr (s.1 2) (s.1 3) s.2)))) = (fun s : St => f_ref41_Check_L5 P T D N (fun w30_0 w30_4 h => f_ref41_Check_j4 P T D N xn x0 xr w30_0 w30_4 h) (fun w31_2 w31_3 h => xr w31_2 w31_3 h) N (s.1 0) (s.1 4) (s.1 6) s.2) := funext fun s => f_ref41_Check_L5_eq P T D N (o_ref41_Check_aL5 P T D N (fun (e : Ex) (s : St) => e.on (xn (s.1 0) (s.1 4) s.2) (fun i => (bif i == 0 then x0 s.2 else (xd i s))) (xr (s.1 2) (s.1 3) s.2))) (fun w30_0 w30_4 h => f_ref41_Check_j4 P T D N xn x0 xr w30_0 w30_4 h) (fun w31_2 w31_3 h => xr w31_2 w31_3 h) (fun s => rfl) (fun s => rfl) N s
  show o_ref41_Check_L2_G P T D N (fun s => iterK (fun s k => o_ref41_Check_L5 P T D N s.1 s.2 k) N s (o_ref41_Check_aL5 P T D N (fun (e : Ex) (s : St) => e.on (xn (s.1 0) (s.1 4) s.2) (fun i => (bif i == 0 then x0 s.2 else (xd i s))) (xr (s.1 2) (s.1 3) s.2)))) t h (fun (e : Ex) (s : St) => e.on (xn (s.1 0) (s.1 4) s.2) (fun i => (bif i == 0 then x0 s.2 else (xd i s))) (xr (s.1 2) (s.1 3) s.2)) = _
  rw [eL5]
  kernel_rfl
theorem f_ref41_Check_L2_eq (P : Program) (T : Tab) (D : DTab) (N : Nat) {β : Type} (A : Ex → St → Option β) (x0 : Hp → Option β) (xr : AV → AV → Hp → Option β) (q0 : ∀ s, A (.exit 0) s = x0 s.2) (qr : ∀ s, A .ret s = xr (s.1 2) (s.1 3) s.2) : ∀ (n : Nat) (s : St), iterK (fun s k => o_ref41_Check_L2 P T D N s.1 s.2 k) n s A = f_ref41_Check_L2 P T D N x0 xr n (s.1 0) (s.1 4) s.2 := by
  intro n
  induction n with
  | zero => intro s; rfl
  | succ n ih =>
    intro s
    have hk : (fun (e : Ex) (s' : St) => Ex.on e (iterK (fun s k => o_ref41_Check_L2 P T D N s.1 s.2 k) n s' A) (fun i => A (.exit i) s') (A .ret s')) = (fun (e : Ex) (s : St) => e.on ((f_ref41_Check_L2 P T D N x0 xr n) (s.1 0) (s.1 4) s.2) (fun i => (bif i == 0 then x0 s.2 else (A (.exit i) s))) (xr (s.1 2) (s.1 3) s.2)) := by
      funext e s'
      cases e with
      | normal => exact ih s'
      | ret => exact qr s'
      | exit i =>
        by_cases r0 : i = 0
        · subst r0; exact q0 s'
        simp only [Ex.on, beq_false_of_ne r0, cond_false]
    show o_ref41_Check_L2 P T D N s.1 s.2 (fun (e : Ex) (s' : St) => Ex.on e (iterK (fun s k => o_ref41_Check_L2 P T D N s.1 s.2 k) n s' A) (fun i => A (.exit i) s') (A .ret s')) = _
    rw [hk]
    exact f_ref41_Check_b2_eq P T D N (f_ref41_Check_L2 P T D N x0 xr n) x0 xr (fun i s => A (.exit i) s) (fun s => A .ret s) s.1 s.2
theorem f_ref41_Check_old_eq (P : Program) (T : Tab) (D : DTab) (N : Nat) {β : Type} (K : AV → Hp → Option β) (a0 : AV) (h : Hp) : o_ref41_Check P T D N K a0 h = f_ref41_Check P T D N K a0 h := by
  have eL2 : (fun s : St => iterK (fun s k => o_ref41_Check_L2 P T D N s.1 s.2 k) N s (o_ref41_Check_aL2 P T D N K)) = (fun s : St => f_ref41_Check_L2 P T D N (fun h => f_ref41_Check_j1 P T D N K h) (fun w33_2 w33_3 h => K (.tup [w33_2, w33_3]) h) N (s.1 0) (s.1 4) s.2) := funext fun s => f_ref41_Check_L2_eq P T D N (o_ref41_Check_aL2 P T D N K) (fun h => f_ref41_Check_j1 P T D N K h) (fun w33_2 w33_3 h => K (.tup [w33_2, w33_3]) h) (fun s => rfl) (fun s => rfl) N s
  show o_ref41_Check_G P T D N (fun s => iterK (fun s k => o_ref41_Check_L2 P T D N s.1 s.2 k) N s (o_ref41_Check_aL2 P T D N K)) K a0 h = _
  rw [eL2]
  kernel_rfl
theorem o_ref41_Check_run (T : Tab) (D : DTab) (N : Nat) {β : Type} (K : AV → Hp → Option β) (a0 : AV) (h : Hp) : runK Try.prog T D N [0, 2, 3, 4, 5, 6, 9, 13, 22, 27, 53] Try.f14 K [a0] h = o_ref41_Check Try.prog T D N K a0 h := by kernel_rfl
theorem f_ref41_Check_run (T : Tab) (D : DTab) (N : Nat) {β : Type} (K : AV → Hp → Option β) (a0 : AV) (h : Hp) : runK Try.prog T D N [0, 2, 3, 4, 5, 6, 9, 13, 22, 27, 53] Try.f14 K [a0] h = f_ref41_Check Try.prog T D N K a0 h := (o_ref41_Check_run T D N K a0 h).trans (f_ref41_Check_old_eq Try.prog T D N K a0 h)
noncomputable def f_network_Deliver (P : Program) (T : Tab) (D : DTab) (N : Nat) {β : Type} (K : AV → Hp → Option β) (a0 : AV) (a1 : AV) (a2 : AV) (h : Hp) : Option β :=
callK (T 49) [a0, a1, a2] h fun x1 h2 =>
exK x1 0 fun x3 =>
exK x1 1 fun x4 =>
K (.tup [x3, x4]) h2
theorem f_network_Deliver_run (T : Tab) (D : DTab) (N : Nat) {β : Type} (K : AV → Hp → Option β) (a0 : AV) (a1 : AV) (a2 : AV) (h : Hp) : runK Try.prog T D N [0, 1, 2, 6, 7] Try.f15 K [a0, a1, a2] h = f_network_Deliver Try.prog T D N K a0 a1 a2 h := by kernel_rfl
noncomputable def f_slices_Clone_int (P : Program) (T : Tab) (D : DTab) (N : Nat) {β : Type} (K : AV → Hp → Option β) (a0 : AV) (h : Hp) : Option β :=
eqK P false 23 a0 (.s (.slice none 0 0)) h fun x1 =>
condK x1 (
K (.s (.slice none 0 0)) h) (
effK (bsE 1 [.s (.int .i64 0)] 0 [] (List.length h)) h fun x2 h3 =>
effK (appE 1 8 x2 a0 h3 (List.length h3)) h3 fun x4 h5 =>
K x4 h5)
theorem f_slices_Clone_int_run (T : Tab) (D : DTab) (N : Nat) {β : Type} (K : AV → Hp → Option β) (a0 : AV) (h : Hp) : runK Try.prog T D N [0, 2, 4] Try.f16 K [a0] h = f_slices_Clone_int Try.prog T D N K a0 h := by kernel_rfl
noncomputable def o_network_Known_j1 (P : Program) (T : Tab) (D : DTab) (N : Nat) {β : Type} (K : AV → Hp → Option β) (t : Tm) (h : Hp) : Option β :=
callK (T 38) [(t 10)] h fun x7 h8 =>
exK x7 0 fun x9 =>
exK x7 1 fun x10 =>
K (.tup [x9, x10]) h8
noncomputable def o_network_Known_j3 (P : Program) (T : Tab) (D : DTab) (N : Nat) {β : Type} (k : Ex → St → Option β) (t : Tm) (h : Hp) : Option β :=
arithK .add (t 25) (.s (.int .i64 1)) fun x12 =>
k .normal ((upd t 25 x12), h)
noncomputable def o_network_Known_j4 (P : Program) (T : Tab) (D : DTab) (N : Nat) {β : Type} (k : Ex → St → Option β) (t : Tm) (h : Hp) : Option β :=
(o_network_Known_j3 P T D N k t h)
noncomputable def o_network_Known_L2 (P : Program) (T : Tab) (D : DTab) (N : Nat) {β : Type} (t : Tm) (h : Hp) (k : Ex → St → Option β) : Option β :=
arithK .lss (t 25) (t 24) fun x11 =>
condK x11 (
iaK 10 (t 23) (t 25) fun x13 =>
ldK 10 true x13 h fun x14 =>
effK (boxE 10 (.agg [.s (.int .i64 0), .s (.int .i64 0), .s (.int .i64 0), .s (.int .i64 0), .s (.int .i64 0), .s (.int .i64 0), .s (.int .i64 0), .s (.int .i64 0), .s (.int .i64 0), .s (.int .i64 0)]) (List.length h)) h fun x15 h16 =>
effK (stE 10 x15 x14 h16) h16 fun x17 h18 =>
faK 3 x15 fun x19 =>
ldK 7 true x19 h18 fun x20 =>
callK (T 37) [(t 10), x20] h18 fun x21 h22 =>
notK x21 fun x23 =>
condK x23 (
faK 3 x15 fun x24 =>
ldK 7 true x24 h22 fun x25 =>
effK (bsE 7 [.s (.int .i64 0), .s (.int .i64 0), .s (.int .i64 0), .s (.int .i64 0), .s (.int .i64 0), .s (.int .i64 0), .s (.int .i64 0)] 1 [(0, x25)] (List.length h22)) h22 fun x26 h27 =>
effK (appE 7 56 (t 10) x26 h27 (List.length h27)) h27 fun x28 h29 =>
(o_network_Known_j4 P T D N k (upd (upd (upd (upd t 26 x11) 12 x15) 33 x23) 10 x28) h29)) (
(o_network_Known_j4 P T D N k (upd (upd (upd t 26 x11) 12 x15) 33 x23) h22))) (
k (.exit 0) ((upd t 26 x11), h))
noncomputable def o_network_Known_aL2 (P : Program) (T : Tab) (D : DTab) (N : Nat) {β : Type} (K : AV → Hp → Option β) (e : Ex) (s : St) : Option β :=
  e.on ((o_network_Known_j1 P T D N K s.1 s.2))
  (fun i => bif i == 0 then ((o_network_Known_j1 P T D N K s.1 s.2)) else (none))
  (K (.tup [(s.1 6), (s.1 7)]) s.2)
noncomputable def o_network_Known_G (P : Program) (T : Tab) (D : DTab) (N : Nat) {β : Type} (cL2 : St → Option β) (K : AV → Hp → Option β) (a0 : AV) (a1 : AV) (a2 : AV) (h : Hp) :  Option β :=
callK (T 49) [a0, a1, a2] h fun x1 h2 =>
exK x1 0 fun x3 =>
exK x1 1 fun x4 =>
eqK P true 26 x4 (.s (.int .i64 0)) h2 fun x5 =>
condK x5 (
K (.tup [(.s (.slice none 0 0)), x4]) h2) (
lenK x3 fun x6 =>
cL2 ((upd (upd (upd (upd (upd (upd (upd (upd (upd (tm0 [a0, a1, a2]) 6 (.s (.slice none 0 0))) 7 (.s (.int .i64 0))) 8 x3) 9 x4) 21 x5) 10 (.s (.slice none 0 0))) 23 x3) 24 x6) 25 (.s (.int .i64 0))), h2))
noncomputable def o_network_Known (P : Program) (T : Tab) (D : DTab) (N : Nat) {β : Type} (K : AV → Hp → Option β) (a0 : AV) (a1 : AV) (a2 : AV) (h : Hp) : Option β := o_network_Known_G P T D N (fun s => iterK (fun s k => o_network_Known_L2 P T D N s.1 s.2 k) N s (o_network_Known_aL2 P T D N K)) K a0 a1 a2 h
noncomputable def f_network_Known_j1 (P : Program) (T : Tab) (D : DTab) (N : Nat) {β : Type} (K : AV → Hp → Option β) (v10 : AV) (h : Hp) : Option β :=
callK (T 38) [v10] h fun x7 h8 =>
exK x7 0 fun x9 =>
exK x7 1 fun x10 =>
K (.tup [x9, x10]) h8
noncomputable def f_network_Known_j3 (P : Program) (T : Tab) (D : DTab) (N : Nat) {β : Type} (xn : AV → AV → AV → AV → Hp → Option β) (x0 : AV → Hp → Option β) (v10 : AV) (v23 : AV) (v24 : AV) (v25 : AV) (h : Hp) : Option β :=
arithK .add v25 (.s (.int .i64 1)) fun x12 =>
xn v10 v23 v24 x12 h
noncomputable def f_network_Known_j4 (P : Program) (T : Tab) (D : DTab) (N : Nat) {β : Type} (xn : AV → AV → AV → AV → Hp → Option β) (x0 : AV → Hp → Option β) (v10 : AV) (v23 : AV) (v24 : AV) (v25 : AV) (h : Hp) : Option β :=
f_network_Known_j3 P T D N xn x0 v10 v23 v24 v25 h
noncomputable def f_network_Known_b2 (P : Program) (T : Tab) (D : DTab) (N : Nat) {β : Type} (xn : AV → AV → AV → AV → Hp → Option β) (x0 : AV → Hp → Option β) (v10 : AV) (v23 : AV) (v24 : AV) (v25 : AV) (h : Hp) : Option β :=
arithK .lss v25 v24 fun x11 =>
condK x11 (
iaK 10 v23 v25 fun x13 =>
ldK 10 true x13 h fun x14 =>
effK (boxE 10 (.agg [.s (.int .i64 0), .s (.int .i64 0), .s (.int .i64 0), .s (.int .i64 0), .s (.int .i64 0), .s (.int .i64 0), .s (.int .i64 0), .s (.int .i64 0), .s (.int .i64 0), .s (.int .i64 0)]) (List.length h)) h fun x15 h16 =>
effK (stE 10 x15 x14 h16) h16 fun x17 h18 =>
faK 3 x15 fun x19 =>
ldK 7 true x19 h18 fun x20 =>
callK (T 37) [v10, x20] h18 fun x21 h22 =>
notK x21 fun x23 =>
condK x23 (
faK 3 x15 fun x24 =>
ldK 7 true x24 h22 fun x25 =>
effK (bsE 7 [.s (.int .i64 0), .s (.int .i64 0), .s (.int .i64 0), .s (.int .i64 0), .s (.int .i64 0), .s (.int .i64 0), .s (.int .i64 0)] 1 [(0, x25)] (List.length h22)) h22 fun x26 h27 =>
effK (appE 7 56 v10 x26 h27 (List.length h27)) h27 fun x28 h29 =>
f_network_Known_j4 P T D N xn x0 x28 v23 v24 v25 h29) (
f_network_Known_j4 P T D N xn x0 v10 v23 v24 v25 h22)) (
x0 v10 h)
noncomputable def f_network_Known_L2 (P : Program) (T : Tab) (D : DTab) (N : Nat) {β : Type} (x0 : AV → Hp → Option β) : Nat → AV → AV → AV → AV → Hp → Option β
  | 0 => fun _ _ _ _ _ => none
  | n + 1 => fun v10 v23 v24 v25 h => f_network_Known_b2 P T D N (f_network_Known_L2 P T D N x0 n) x0 v10 v23 v24 v25 h
noncomputable def f_network_Known (P : Program) (T : Tab) (D : DTab) (N : Nat) {β : Type} (K : AV → Hp → Option β) (a0 : AV) (a1 : AV) (a2 : AV) (h : Hp) : Option β :=
callK (T 49) [a0, a1, a2] h fun x1 h2 =>
exK x1 0 fun x3 =>
exK x1 1 fun x4 =>
eqK P true 26 x4 (.s (.int .i64 0)) h2 fun x5 =>
condK x5 (
K (.tup [(.s (.slice none 0 0)), x4]) h2) (
lenK x3 fun x6 =>
f_network_Known_L2 P T D N (fun w30_10 h => f_network_Known_j1 P T D N K w30_10 h) N (.s (.slice none 0 0)) x3 x6 (.s (.int .i64 0)) h2)
theorem f_network_Known_b2_eq (P : Program) (T : Tab) (D : DTab) (N : Nat) {β : Type} (xn : AV → AV → AV → AV → Hp → Option β) (x0 : AV → Hp → Option β) (xd : Nat → St → Option β) (xq : St → Option β) (t : Tm) (h : Hp) : o_network_Known_L2 P T D N t h (fun (e : Ex) (s : St) => e.on (xn (s.1 10) (s.1 23) (s.1 24) (s.1 25) s.2) (fun i => (bif i == 0 then x0 (s.1 10) s.2 else (xd i s))) (xq s)) = f_network_Known_b2 P T D N xn x0 (t 10) (t 23) (t 24) (t 25) h := by kernel_rfl
theorem f_network_Known_L2_eq (P : Program) (T : Tab) (D : DTab) (N : Nat) {β : Type} (A : Ex → St → Option β) (x0 : AV → Hp → Option β) (q0 : ∀ s, A (.exit 0) s = x0 (s.1 10) s.2) : ∀ (n : Nat) (s : St), iterK (fun s k => o_network_Known_L2 P T D N s.1 s.2 k) n s A = f_network_Known_L2 P T D N x0 n (s.1 10) (s.1 23) (s.1 24) (s.1 25) s.2 := by
  intro n
  induction n with
  | zero => intro s; rfl
  | succ n ih =>
    intro s
    have hk : (fun (e : Ex) (s' : St) => Ex.on e (iterK (fun s k => o_network_Known_L2 P T D N s.1 s.2 k) n s' A) (fun i => A (.exit i) s') (A .ret s')) = (fun (e : Ex) (s : St) => e.on ((f_network_Known_L2 P T D N x0 n) (s.1 10) (s.1 23) (s.1 24) (s.1 25) s.2) (fun i => (bif i == 0 then x0 (s.1 10) s.2 else (A (.exit i) s))) (A .ret s)) := by
      funext e s'
      cases e with
      | normal => exact ih s'
      | ret => exact rfl
      | exit i =>
        by_cases r0 : i = 0
        · subst r0; exact q0 s'
        simp only [Ex.on, beq_false_of_ne r0, cond_false]
    show o_network_Known_L2 P T D N s.1 s.2 (fun (e : Ex) (s' : St) => Ex.on e (iterK (fun s k => o_network_Known_L2 P T D N s.1 s.2 k) n s' A) (fun i => A (.exit i) s') (A .ret s')) = _
    rw [hk]
    exact f_network_Known_b2_eq P T D N (f_network_Known_L2 P T D N x0 n) x0 (fun i s => A (.exit i) s) (fun s => A .ret s) s.1 s.2
theorem f_network_Known_old_eq (P : Program) (T : Tab) (D : DTab) (N : Nat) {β : Type} (K : AV → Hp → Option β) (a0 : AV) (a1 : AV) (a2 : AV) (h : Hp) : o_network_Known P T D N K a0 a1 a2 h = f_network_Known P T D N K a0 a1 a2 h := by
  have eL2 : (fun s : St => iterK (fun s k => o_network_Known_L2 P T D N s.1 s.2 k) N s (o_network_Known_aL2 P T D N K)) = (fun s : St => f_network_Known_L2 P T D N (fun w30_10 h => f_network_Known_j1 P T D N K w30_10 h) N (s.1 10) (s.1 23) (s.1 24) (s.1 25) s.2) := funext fun s => f_network_Known_L2_eq P T D N (o_network_Known_aL2 P T D N K) (fun w30_10 h => f_network_Known_j1 P T D N K w30_10 h) (fun s => rfl) N s
  show o_network_Known_G P T D N (fun s => iterK (fun s k => o_network_Known_L2 P T D N s.1 s.2 k) N s (o_network_Known_aL2 P T D N K)) K a0 a1 a2 h = _
  rw [eL2]
  kernel_rfl
theorem o_network_Known_run (T : Tab) (D : DTab) (N : Nat) {β : Type} (K : AV → Hp → Option β) (a0 : AV) (a1 : AV) (a2 : AV) (h : Hp) : runK Try.prog T D N [0, 1, 2, 6, 7, 8, 9, 10, 12, 21, 23, 24, 25, 26, 33] Try.f18 K [a0, a1, a2] h = o_network_Known Try.prog T D N K a0 a1 a2 h := by kernel_rfl
theorem f_network_Known_run (T : Tab) (D : DTab) (N : Nat) {β : Type} (K : AV → Hp → Option β) (a0 : AV) (a1 : AV) (a2 : AV) (h : Hp) : runK Try.prog T D N [0, 1, 2, 6, 7, 8, 9, 10, 12, 21, 23, 24, 25, 26, 33] Try.f18 K [a0, a1, a2] h = f_network_Known Try.prog T D N K a0 a1 a2 h := (o_network_Known_run T D N K a0 a1 a2 h).trans (f_network_Known_old_eq Try.prog T D N K a0 a1 a2 h)
noncomputable def o_network_Lost_j1 (P : Program) (T : Tab) (D : DTab) (N : Nat) {β : Type} (K : AV → Hp → Option β) (t : Tm) (h : Hp) : Option β :=
K (.tup [(t 8), (.s (.int .i64 0))]) h
noncomputable def o_network_Lost_j3 (P : Program) (T : Tab) (D : DTab) (N : Nat) {β : Type} (k : Ex → St → Option β) (t : Tm) (h : Hp) : Option β :=
arithK .add (t 23) (.s (.int .i64 1)) fun x8 =>
k .normal ((upd t 23 x8), h)
noncomputable def o_network_Lost_j4 (P : Program) (T : Tab) (D : DTab) (N : Nat) {β : Type} (k : Ex → St → Option β) (t : Tm) (h : Hp) : Option β :=
(o_network_Lost_j3 P T D N k t h)
noncomputable def o_network_Lost_L2 (P : Program) (T : Tab) (D : DTab) (N : Nat) {β : Type} (t : Tm) (h : Hp) (k : Ex → St → Option β) : Option β :=
arithK .lss (t 23) (t 22) fun x7 =>
condK x7 (
lookK P 3 (.s (.int .i64 0)) true (t 7) (t 23) h fun x9 =>
exK x9 0 fun x10 =>
exK x9 1 fun x11 =>
notK x11 fun x12 =>
condK x12 (
effK (bsE 1 [.s (.int .i64 0)] 1 [(0, (t 23))] (List.length h)) h fun x13 h14 =>
effK (appE 1 8 (t 8) x13 h14 (List.length h14)) h14 fun x15 h16 =>
(o_network_Lost_j4 P T D N k (upd (upd (upd (upd (upd t 24 x7) 9 (t 23)) 11 x11) 33 x12) 8 x15) h16)) (
(o_network_Lost_j4 P T D N k (upd (upd (upd (upd t 24 x7) 9 (t 23)) 11 x11) 33 x12) h))) (
k (.exit 0) ((upd t 24 x7), h))
noncomputable def o_network_Lost_aL2 (P : Program) (T : Tab) (D : DTab) (N : Nat) {β : Type} (K : AV → Hp → Option β) (e : Ex) (s : St) : Option β :=
  e.on ((o_network_Lost_j1 P T D N K s.1 s.2))
  (fun i => bif i == 0 then ((o_network_Lost_j1 P T D N K s.1 s.2)) else (none))
  (K (.tup [(s.1 4), (s.1 5)]) s.2)
noncomputable def o_network_Lost_G (P : Program) (T : Tab) (D : DTab) (N : Nat) {β : Type} (cL2 : St → Option β) (K : AV → Hp → Option β) (a0 : AV) (a1 : AV) (h : Hp) :  Option β :=
callK (T 53) [a0, a1] h fun x1 h2 =>
eqK P true 26 x1 (.s (.int .i64 0)) h2 fun x3 =>
condK x3 (
K (.tup [(.s (.slice none 0 0)), x1]) h2) (
callK (T 54) [a0, a1] h2 fun x4 h5 =>
lenK a0 fun x6 =>
cL2 ((upd (upd (upd (upd (upd (upd (upd (upd (tm0 [a0, a1]) 4 (.s (.slice none 0 0))) 5 (.s (.int .i64 0))) 6 x1) 16 x3) 7 x4) 8 (.s (.slice none 0 0))) 22 x6) 23 (.s (.int .i64 0))), h5))
noncomputable def o_network_Lost (P : Program) (T : Tab) (D : DTab) (N : Nat) {β : Type} (K : AV → Hp → Option β) (a0 : AV) (a1 : AV) (h : Hp) : Option β := o_network_Lost_G P T D N (fun s => iterK (fun s k => o_network_Lost_L2 P T D N s.1 s.2 k) N s (o_network_Lost_aL2 P T D N K)) K a0 a1 h
noncomputable def f_network_Lost_j1 (P : Program) (T : Tab) (D : DTab) (N : Nat) {β : Type} (K : AV → Hp → Option β) (v8 : AV) (h : Hp) : Option β :=
K (.tup [v8, (.s (.int .i64 0))]) h
noncomputable def f_network_Lost_j3 (P : Program) (T : Tab) (D : DTab) (N : Nat) {β : Type} (xn : AV → AV → AV → AV → Hp → Option β) (x0 : AV → Hp → Option β) (v7 : AV) (v8 : AV) (v22 : AV) (v23 : AV) (h : Hp) : Option β :=
arithK .add v23 (.s (.int .i64 1)) fun x8 =>
xn v7 v8 v22 x8 h
noncomputable def f_network_Lost_j4 (P : Program) (T : Tab) (D : DTab) (N : Nat) {β : Type} (xn : AV → AV → AV → AV → Hp → Option β) (x0 : AV → Hp → Option β) (v7 : AV) (v8 : AV) (v22 : AV) (v23 : AV) (h : Hp) : Option β :=
f_network_Lost_j3 P T D N xn x0 v7 v8 v22 v23 h
noncomputable def f_network_Lost_b2 (P : Program) (T : Tab) (D : DTab) (N : Nat) {β : Type} (xn : AV → AV → AV → AV → Hp → Option β) (x0 : AV → Hp → Option β) (v7 : AV) (v8 : AV) (v22 : AV) (v23 : AV) (h : Hp) : Option β :=
arithK .lss v23 v22 fun x7 =>
condK x7 (
lookK P 3 (.s (.int .i64 0)) true v7 v23 h fun x9 =>
exK x9 0 fun x10 =>
exK x9 1 fun x11 =>
notK x11 fun x12 =>
condK x12 (
effK (bsE 1 [.s (.int .i64 0)] 1 [(0, v23)] (List.length h)) h fun x13 h14 =>
effK (appE 1 8 v8 x13 h14 (List.length h14)) h14 fun x15 h16 =>
f_network_Lost_j4 P T D N xn x0 v7 x15 v22 v23 h16) (
f_network_Lost_j4 P T D N xn x0 v7 v8 v22 v23 h)) (
x0 v8 h)
noncomputable def f_network_Lost_L2 (P : Program) (T : Tab) (D : DTab) (N : Nat) {β : Type} (x0 : AV → Hp → Option β) : Nat → AV → AV → AV → AV → Hp → Option β
  | 0 => fun _ _ _ _ _ => none
  | n + 1 => fun v7 v8 v22 v23 h => f_network_Lost_b2 P T D N (f_network_Lost_L2 P T D N x0 n) x0 v7 v8 v22 v23 h
noncomputable def f_network_Lost (P : Program) (T : Tab) (D : DTab) (N : Nat) {β : Type} (K : AV → Hp → Option β) (a0 : AV) (a1 : AV) (h : Hp) : Option β :=
callK (T 53) [a0, a1] h fun x1 h2 =>
eqK P true 26 x1 (.s (.int .i64 0)) h2 fun x3 =>
condK x3 (
K (.tup [(.s (.slice none 0 0)), x1]) h2) (
callK (T 54) [a0, a1] h2 fun x4 h5 =>
lenK a0 fun x6 =>
f_network_Lost_L2 P T D N (fun w17_8 h => f_network_Lost_j1 P T D N K w17_8 h) N x4 (.s (.slice none 0 0)) x6 (.s (.int .i64 0)) h5)
theorem f_network_Lost_b2_eq (P : Program) (T : Tab) (D : DTab) (N : Nat) {β : Type} (xn : AV → AV → AV → AV → Hp → Option β) (x0 : AV → Hp → Option β) (xd : Nat → St → Option β) (xq : St → Option β) (t : Tm) (h : Hp) : o_network_Lost_L2 P T D N t h (fun (e : Ex) (s : St) => e.on (xn (s.1 7) (s.1 8) (s.1 22) (s.1 23) s.2) (fun i => (bif i == 0 then x0 (s.1 8) s.2 else (xd i s))) (xq s)) = f_network_Lost_b2 P T D N xn x0 (t 7) (t 8) (t 22) (t 23) h := by kernel_rfl
theorem f_network_Lost_L2_eq (P : Program) (T : Tab) (D : DTab) (N : Nat) {β : Type} (A : Ex → St → Option β) (x0 : AV → Hp → Option β) (q0 : ∀ s, A (.exit 0) s = x0 (s.1 8) s.2) : ∀ (n : Nat) (s : St), iterK (fun s k => o_network_Lost_L2 P T D N s.1 s.2 k) n s A = f_network_Lost_L2 P T D N x0 n (s.1 7) (s.1 8) (s.1 22) (s.1 23) s.2 := by
  intro n
  induction n with
  | zero => intro s; rfl
  | succ n ih =>
    intro s
    have hk : (fun (e : Ex) (s' : St) => Ex.on e (iterK (fun s k => o_network_Lost_L2 P T D N s.1 s.2 k) n s' A) (fun i => A (.exit i) s') (A .ret s')) = (fun (e : Ex) (s : St) => e.on ((f_network_Lost_L2 P T D N x0 n) (s.1 7) (s.1 8) (s.1 22) (s.1 23) s.2) (fun i => (bif i == 0 then x0 (s.1 8) s.2 else (A (.exit i) s))) (A .ret s)) := by
      funext e s'
      cases e with
      | normal => exact ih s'
      | ret => exact rfl
      | exit i =>
        by_cases r0 : i = 0
        · subst r0; exact q0 s'
        simp only [Ex.on, beq_false_of_ne r0, cond_false]
    show o_network_Lost_L2 P T D N s.1 s.2 (fun (e : Ex) (s' : St) => Ex.on e (iterK (fun s k => o_network_Lost_L2 P T D N s.1 s.2 k) n s' A) (fun i => A (.exit i) s') (A .ret s')) = _
    rw [hk]
    exact f_network_Lost_b2_eq P T D N (f_network_Lost_L2 P T D N x0 n) x0 (fun i s => A (.exit i) s) (fun s => A .ret s) s.1 s.2
theorem f_network_Lost_old_eq (P : Program) (T : Tab) (D : DTab) (N : Nat) {β : Type} (K : AV → Hp → Option β) (a0 : AV) (a1 : AV) (h : Hp) : o_network_Lost P T D N K a0 a1 h = f_network_Lost P T D N K a0 a1 h := by
  have eL2 : (fun s : St => iterK (fun s k => o_network_Lost_L2 P T D N s.1 s.2 k) N s (o_network_Lost_aL2 P T D N K)) = (fun s : St => f_network_Lost_L2 P T D N (fun w17_8 h => f_network_Lost_j1 P T D N K w17_8 h) N (s.1 7) (s.1 8) (s.1 22) (s.1 23) s.2) := funext fun s => f_network_Lost_L2_eq P T D N (o_network_Lost_aL2 P T D N K) (fun w17_8 h => f_network_Lost_j1 P T D N K w17_8 h) (fun s => rfl) N s
  show o_network_Lost_G P T D N (fun s => iterK (fun s k => o_network_Lost_L2 P T D N s.1 s.2 k) N s (o_network_Lost_aL2 P T D N K)) K a0 a1 h = _
  rw [eL2]
  kernel_rfl
theorem o_network_Lost_run (T : Tab) (D : DTab) (N : Nat) {β : Type} (K : AV → Hp → Option β) (a0 : AV) (a1 : AV) (h : Hp) : runK Try.prog T D N [0, 1, 4, 5, 6, 7, 8, 9, 11, 16, 22, 23, 24, 33] Try.f22 K [a0, a1] h = o_network_Lost Try.prog T D N K a0 a1 h := by kernel_rfl
theorem f_network_Lost_run (T : Tab) (D : DTab) (N : Nat) {β : Type} (K : AV → Hp → Option β) (a0 : AV) (a1 : AV) (h : Hp) : runK Try.prog T D N [0, 1, 4, 5, 6, 7, 8, 9, 11, 16, 22, 23, 24, 33] Try.f22 K [a0, a1] h = f_network_Lost Try.prog T D N K a0 a1 h := (o_network_Lost_run T D N K a0 a1 h).trans (f_network_Lost_old_eq Try.prog T D N K a0 a1 h)
noncomputable def o_ref41_Lost_j1 (P : Program) (T : Tab) (D : DTab) (N : Nat) {β : Type} (K : AV → Hp → Option β) (t : Tm) (h : Hp) : Option β :=
K (.tup [(t 7), (.s (.int .i64 0))]) h
noncomputable def o_ref41_Lost_j3 (P : Program) (T : Tab) (D : DTab) (N : Nat) {β : Type} (k : Ex → St → Option β) (t : Tm) (h : Hp) : Option β :=
arithK .add (t 8) (.s (.int .i64 1)) fun x8 =>
k .normal ((upd t 8 x8), h)
noncomputable def o_ref41_Lost_j4 (P : Program) (T : Tab) (D : DTab) (N : Nat) {β : Type} (k : Ex → St → Option β) (t : Tm) (h : Hp) : Option β :=
(o_ref41_Lost_j3 P T D N k t h)
noncomputable def o_ref41_Lost_L2 (P : Program) (T : Tab) (D : DTab) (N : Nat) {β : Type} (t : Tm) (h : Hp) (k : Ex → St → Option β) : Option β :=
lenK (t 0) fun x6 =>
arithK .lss (t 8) x6 fun x7 =>
condK x7 (
callK (T 55) [(t 1), (t 8)] h fun x9 h10 =>
arithK .lss x9 (.s (.int .i64 0)) fun x11 =>
condK x11 (
effK (bsE 1 [.s (.int .i64 0)] 1 [(0, (t 8))] (List.length h10)) h10 fun x12 h13 =>
effK (appE 1 8 (t 7) x12 h13 (List.length h13)) h13 fun x14 h15 =>
(o_ref41_Lost_j4 P T D N k (upd (upd (upd t 19 x7) 25 x11) 7 x14) h15)) (
(o_ref41_Lost_j4 P T D N k (upd (upd t 19 x7) 25 x11) h10))) (
k (.exit 0) ((upd t 19 x7), h))
noncomputable def o_ref41_Lost_aL2 (P : Program) (T : Tab) (D : DTab) (N : Nat) {β : Type} (K : AV → Hp → Option β) (e : Ex) (s : St) : Option β :=
  e.on ((o_ref41_Lost_j1 P T D N K s.1 s.2))
  (fun i => bif i == 0 then ((o_ref41_Lost_j1 P T D N K s.1 s.2)) else (none))
  (K (.tup [(s.1 4), (s.1 5)]) s.2)
noncomputable def o_ref41_Lost_G (P : Program) (T : Tab) (D : DTab) (N : Nat) {β : Type} (cL2 : St → Option β) (K : AV → Hp → Option β) (a0 : AV) (a1 : AV) (h : Hp) :  Option β :=
callK (T 50) [a0, a1] h fun x1 h2 =>
eqK P true 26 x1 (.s (.int .i64 0)) h2 fun x3 =>
condK x3 (
K (.tup [(.s (.slice none 0 0)), x1]) h2) (
effK (bsE 1 [.s (.int .i64 0)] 0 [] (List.length h2)) h2 fun x4 h5 =>
cL2 ((upd (upd (upd (upd (upd (upd (tm0 [a0, a1]) 4 (.s (.slice none 0 0))) 5 (.s (.int .i64 0))) 6 x1) 13 x3) 7 x4) 8 (.s (.int .i64 0))), h5))
noncomputable def o_ref41_Lost (P : Program) (T : Tab) (D : DTab) (N : Nat) {β : Type} (K : AV → Hp → Option β) (a0 : AV) (a1 : AV) (h : Hp) : Option β := o_ref41_Lost_G P T D N (fun s => iterK (fun s k => o_ref41_Lost_L2 P T D N s.1 s.2 k) N s (o_ref41_Lost_aL2 P T D N K)) K a0 a1 h
noncomputable def f_ref41_Lost_j1 (P : Program) (T : Tab) (D : DTab) (N : Nat) {β : Type} (K : AV → Hp → Option β) (v7 : AV) (h : Hp) : Option β :=
K (.tup [v7, (.s (.int .i64 0))]) h
noncomputable def f_ref41_Lost_j3 (P : Program) (T : Tab) (D : DTab) (N : Nat) {β : Type} (xn : AV → AV → AV → AV → Hp → Option β) (x0 : AV → Hp → Option β) (v0 : AV) (v1 : AV) (v7 : AV) (v8 : AV) (h : Hp) : Option β :=
arithK .add v8 (.s (.int .i64 1)) fun x8 =>
xn v0 v1 v7 x8 h
noncomputable def f_ref41_Lost_j4 (P : Program) (T : Tab) (D : DTab) (N : Nat) {β : Type} (xn : AV → AV → AV → AV → Hp → Option β) (x0 : AV → Hp → Option β) (v0 : AV) (v1 : AV) (v7 : AV) (v8 : AV) (h : Hp) : Option β :=
f_ref41_Lost_j3 P T D N xn x0 v0 v1 v7 v8 h
noncomputable def f_ref41_Lost_b2 (P : Program) (T : Tab) (D : DTab) (N : Nat) {β : Type} (xn : AV → AV → AV → AV → Hp → Option β) (x0 : AV → Hp → Option β) (v0 : AV) (v1 : AV) (v7 : AV) (v8 : AV) (h : Hp) : Option β :=
lenK v0 fun x6 =>
arithK .lss v8 x6 fun x7 =>
condK x7 (
callK (T 55) [v1, v8] h fun x9 h10 =>
arithK .lss x9 (.s (.int .i64 0)) fun x11 =>
condK x11 (
effK (bsE 1 [.s (.int .i64 0)] 1 [(0, v8)] (List.length h10)) h10 fun x12 h13 =>
effK (appE 1 8 v7 x12 h13 (List.length h13)) h13 fun x14 h15 =>
f_ref41_Lost_j4 P T D N xn x0 v0 v1 x14 v8 h15) (
f_ref41_Lost_j4 P T D N xn x0 v0 v1 v7 v8 h10)) (
x0 v7 h)
noncomputable def f_ref41_Lost_L2 (P : Program) (T : Tab) (D : DTab) (N : Nat) {β : Type} (x0 : AV → Hp → Option β) : Nat → AV → AV → AV → AV → Hp → Option β
  | 0 => fun _ _ _ _ _ => none
  | n + 1 => fun v0 v1 v7 v8 h => f_ref41_Lost_b2 P T D N (f_ref41_Lost_L2 P T D N x0 n) x0 v0 v1 v7 v8 h
noncomputable def f_ref41_Lost (P : Program) (T : Tab) (D : DTab) (N : Nat) {β : Type} (K : AV → Hp → Option β) (a0 : AV) (a1 : AV) (h : Hp) : Option β :=
callK (T 50) [a0, a1] h fun x1 h2 =>
eqK P true 26 x1 (.s (.int .i64 0)) h2 fun x3 =>
condK x3 (
K (.tup [(.s (.slice none 0 0)), x1]) h2) (
effK (bsE 1 [.s (.int .i64 0)] 0 [] (List.length h2)) h2 fun x4 h5 =>
f_ref41_Lost_L2 P T D N (fun w16_7 h => f_ref41_Lost_j1 P T D N K w16_7 h) N a0 a1 x4 (.s (.int .i64 0)) h5)
theorem f_ref41_Lost_b2_eq (P : Program) (T : Tab) (D : DTab) (N : Nat) {β : Type} (xn : AV → AV → AV → AV → Hp → Option β) (x0 : AV → Hp → Option β) (xd : Nat → St → Option β) (xq : St → Option β) (t : Tm) (h : Hp) : o_ref41_Lost_L2 P T D N t h (fun (e : Ex) (s : St) => e.on (xn (s.1 0) (s.1 1) (s.1 7) (s.1 8) s.2) (fun i => (bif i == 0 then x0 (s.1 7) s.2 else (xd i s))) (xq s)) = f_ref41_Lost_b2 P T D N xn x0 (t 0) (t 1) (t 7) (t 8) h := by kernel_rfl
theorem f_ref41_Lost_L2_eq (P : Program) (T : Tab) (D : DTab) (N : Nat) {β : Type} (A : Ex → St → Option β) (x0 : AV → Hp → Option β) (q0 : ∀ s, A (.exit 0) s = x0 (s.1 7) s.2) : ∀ (n : Nat) (s : St), iterK (fun s k => o_ref41_Lost_L2 P T D N s.1 s.2 k) n s A = f_ref41_Lost_L2 P T D N x0 n (s.1 0) (s.1 1) (s.1 7) (s.1 8) s.2 := by
  intro n
  induction n with
  | zero => intro s; rfl
  | succ n ih =>
    intro s
    have hk : (fun (e : Ex) (s' : St) => Ex.on e (iterK (fun s k => o_ref41_Lost_L2 P T D N s.1 s.2 k) n s' A) (fun i => A (.exit i) s') (A .ret s')) = (fun (e : Ex) (s : St) => e.on ((f_ref41_Lost_L2 P T D N x0 n) (s.1 0) (s.1 1) (s.1 7) (s.1 8) s.2) (fun i => (bif i == 0 then x0 (s.1 7) s.2 else (A (.exit i) s))) (A .ret s)) := by
      funext e s'
      cases e with
      | normal => exact ih s'
      | ret => exact rfl
      | exit i =>
        by_cases r0 : i = 0
        · subst r0; exact q0 s'
        simp only [Ex.on, beq_false_of_ne r0, cond_false]
    show o_ref41_Lost_L2 P T D N s.1 s.2 (fun (e : Ex) (s' : St) => Ex.on e (iterK (fun s k => o_ref41_Lost_L2 P T D N s.1 s.2 k) n s' A) (fun i => A (.exit i) s') (A .ret s')) = _
    rw [hk]
    exact f_ref41_Lost_b2_eq P T D N (f_ref41_Lost_L2 P T D N x0 n) x0 (fun i s => A (.exit i) s) (fun s => A .ret s) s.1 s.2
theorem f_ref41_Lost_old_eq (P : Program) (T : Tab) (D : DTab) (N : Nat) {β : Type} (K : AV → Hp → Option β) (a0 : AV) (a1 : AV) (h : Hp) : o_ref41_Lost P T D N K a0 a1 h = f_ref41_Lost P T D N K a0 a1 h := by
  have eL2 : (fun s : St => iterK (fun s k => o_ref41_Lost_L2 P T D N s.1 s.2 k) N s (o_ref41_Lost_aL2 P T D N K)) = (fun s : St => f_ref41_Lost_L2 P T D N (fun w16_7 h => f_ref41_Lost_j1 P T D N K w16_7 h) N (s.1 0) (s.1 1) (s.1 7) (s.1 8) s.2) := funext fun s => f_ref41_Lost_L2_eq P T D N (o_ref41_Lost_aL2 P T D N K) (fun w16_7 h => f_ref41_Lost_j1 P T D N K w16_7 h) (fun s => rfl) N s
  show o_ref41_Lost_G P T D N (fun s => iterK (fun s k => o_ref41_Lost_L2 P T D N s.1 s.2 k) N s (o_ref41_Lost_aL2 P T D N K)) K a0 a1 h = _
  rw [eL2]
  kernel_rfl
theorem o_ref41_Lost_run (T : Tab) (D : DTab) (N : Nat) {β : Type} (K : AV → Hp → Option β) (a0 : AV) (a1 : AV) (h : Hp) : runK Try.prog T D N [0, 1, 4, 5, 6, 7, 8, 13, 19, 25] Try.f23 K [a0, a1] h = o_ref41_Lost Try.prog T D N K a0 a1 h := by kernel_rfl
theorem f_ref41_Lost_run (T : Tab) (D : DTab) (N : Nat) {β : Type} (K : AV → Hp → Option β) (a0 : AV) (a1 : AV) (h : Hp) : runK Try.prog T D N [0, 1, 4, 5, 6, 7, 8, 13, 19, 25] Try.f23 K [a0, a1] h = f_ref41_Lost Try.prog T D N K a0 a1 h := (o_ref41_Lost_run T D N K a0 a1 h).trans (f_ref41_Lost_old_eq Try.prog T D N K a0 a1 h)
noncomputable def f_network_Repeated (P : Program) (T : Tab) (D : DTab) (N : Nat) {β : Type} (K : AV → Hp → Option β) (a0 : AV) (a1 : AV) (h : Hp) : Option β :=
callK (T 53) [a0, a1] h fun x1 h2 =>
eqK P true 26 x1 (.s (.int .i64 0)) h2 fun x3 =>
condK x3 (
K (.tup [(.s (.int .i64 0)), x1]) h2) (
lenK a1 fun x4 =>
callK (T 54) [a0, a1] h2 fun x5 h6 =>
lenM x5 h6 fun x7 =>
arithK .sub x4 x7 fun x8 =>
K (.tup [x8, (.s (.int .i64 0))]) h6)
theorem f_network_Repeated_run (T : Tab) (D : DTab) (N : Nat) {β : Type} (K : AV → Hp → Option β) (a0 : AV) (a1 : AV) (h : Hp) : runK Try.prog T D N [0, 1, 4, 5, 6, 11] Try.f24 K [a0, a1] h = f_network_Repeated Try.prog T D N K a0 a1 h := by kernel_rfl
noncomputable def o_ref41_Repeated_j1 (P : Program) (T : Tab) (D : DTab) (N : Nat) {β : Type} (K : AV → Hp → Option β) (t : Tm) (h : Hp) : Option β :=
K (.tup [(t 7), (.s (.int .i64 0))]) h
noncomputable def o_ref41_Repeated_j3 (P : Program) (T : Tab) (D : DTab) (N : Nat) {β : Type} (k : Ex → St → Option β) (t : Tm) (h : Hp) : Option β :=
arithK .add (t 8) (.s (.int .i64 1)) fun x6 =>
k .normal ((upd t 8 x6), h)
noncomputable def o_ref41_Repeated_j4 (P : Program) (T : Tab) (D : DTab) (N : Nat) {β : Type} (k : Ex → St → Option β) (t : Tm) (h : Hp) : Option β :=
(o_ref41_Repeated_j3 P T D N k t h)
noncomputable def o_ref41_Repeated_L2 (P : Program) (T : Tab) (D : DTab) (N : Nat) {β : Type} (t : Tm) (h : Hp) (k : Ex → St → Option β) : Option β :=
lenK (t 1) fun x4 =>
arithK .lss (t 8) x4 fun x5 =>
condK x5 (
iaK 1 (t 1) (t 8) fun x7 =>
ldK 1 false x7 h fun x8 =>
callK (T 55) [(t 1), x8] h fun x9 h10 =>
arithK .lss x9 (t 8) fun x11 =>
condK x11 (
arithK .add (t 7) (.s (.int .i64 1)) fun x12 =>
(o_ref41_Repeated_j4 P T D N k (upd (upd (upd t 18 x5) 28 x11) 7 x12) h10)) (
(o_ref41_Repeated_j4 P T D N k (upd (upd t 18 x5) 28 x11) h10))) (
k (.exit 0) ((upd t 18 x5), h))
noncomputable def o_ref41_Repeated_aL2 (P : Program) (T : Tab) (D : DTab) (N : Nat) {β : Type} (K : AV → Hp → Option β) (e : Ex) (s : St) : Option β :=
  e.on ((o_ref41_Repeated_j1 P T D N K s.1 s.2))
  (fun i => bif i == 0 then ((o_ref41_Repeated_j1 P T D N K s.1 s.2)) else (none))
  (K (.tup [(s.1 4), (s.1 5)]) s.2)
noncomputable def o_ref41_Repeated_G (P : Program) (T : Tab) (D : DTab) (N : Nat) {β : Type} (cL2 : St → Option β) (K : AV → Hp → Option β) (a0 : AV) (a1 : AV) (h : Hp) :  Option β :=
callK (T 50) [a0, a1] h fun x1 h2 =>
eqK P true 26 x1 (.s (.int .i64 0)) h2 fun x3 =>
condK x3 (
K (.tup [(.s (.int .i64 0)), x1]) h2) (
cL2 ((upd (upd (upd (upd (upd (upd (tm0 [a0, a1]) 4 (.s (.int .i64 0))) 5 (.s (.int .i64 0))) 6 x1) 13 x3) 7 (.s (.int .i64 0))) 8 (.s (.int .i64 0))), h2))
noncomputable def o_ref41_Repeated (P : Program) (T : Tab) (D : DTab) (N : Nat) {β : Type} (K : AV → Hp → Option β) (a0 : AV) (a1 : AV) (h : Hp) : Option β := o_ref41_Repeated_G P T D N (fun s => iterK (fun s k => o_ref41_Repeated_L2 P T D N s.1 s.2 k) N s (o_ref41_Repeated_aL2 P T D N K)) K a0 a1 h
noncomputable def f_ref41_Repeated_j1 (P : Program) (T : Tab) (D : DTab) (N : Nat) {β : Type} (K : AV → Hp → Option β) (v7 : AV) (h : Hp) : Option β :=
K (.tup [v7, (.s (.int .i64 0))]) h
noncomputable def f_ref41_Repeated_j3 (P : Program) (T : Tab) (D : DTab) (N : Nat) {β : Type} (xn : AV → AV → AV → Hp → Option β) (x0 : AV → Hp → Option β) (v1 : AV) (v7 : AV) (v8 : AV) (h : Hp) : Option β :=
arithK .add v8 (.s (.int .i64 1)) fun x6 =>
xn v1 v7 x6 h
noncomputable def f_ref41_Repeated_j4 (P : Program) (T : Tab) (D : DTab) (N : Nat) {β : Type} (xn : AV → AV → AV → Hp → Option β) (x0 : AV → Hp → Option β) (v1 : AV) (v7 : AV) (v8 : AV) (h : Hp) : Option β :=
f_ref41_Repeated_j3 P T D N xn x0 v1 v7 v8 h
noncomputable def f_ref41_Repeated_b2 (P : Program) (T : Tab) (D : DTab) (N : Nat) {β : Type} (xn : AV → AV → AV → Hp → Option β) (x0 : AV → Hp → Option β) (v1 : AV) (v7 : AV) (v8 : AV) (h : Hp) : Option β :=
lenK v1 fun x4 =>
arithK .lss v8 x4 fun x5 =>
condK x5 (
iaK 1 v1 v8 fun x7 =>
ldK 1 false x7 h fun x8 =>
callK (T 55) [v1, x8] h fun x9 h10 =>
arithK .lss x9 v8 fun x11 =>
condK x11 (
arithK .add v7 (.s (.int .i64 1)) fun x12 =>
f_ref41_Repeated_j4 P T D N xn x0 v1 x12 v8 h10) (
f_ref41_Repeated_j4 P T D N xn x0 v1 v7 v8 h10)) (
x0 v7 h)
noncomputable def f_ref41_Repeated_L2 (P : Program) (T : Tab) (D : DTab) (N : Nat) {β : Type} (x0 : AV → Hp → Option β) : Nat → AV → AV → AV → Hp → Option β
  | 0 => fun _ _ _ _ => none
  | n + 1 => fun v1 v7 v8 h => f_ref41_Repeated_b2 P T D N (f_ref41_Repeated_L2 P T D N x0 n) x0 v1 v7 v8 h
noncomputable def f_ref41_Repeated (P : Program) (T : Tab) (D : DTab) (N : Nat) {β : Type} (K : AV → Hp → Option β) (a0 : AV) (a1 : AV) (h : Hp) : Option β :=
callK (T 50) [a0, a1] h fun x1 h2 =>
eqK P true 26 x1 (.s (.int .i64 0)) h2 fun x3 =>
condK x3 (
K (.tup [(.s (.int .i64 0)), x1]) h2) (
f_ref41_Repeated_L2 P T D N (fun w13_7 h => f_ref41_Repeated_j1 P T D N K w13_7 h) N a1 (.s (.int .i64 0)) (.s (.int .i64 0)) h2)
theorem f_ref41_Repeated_b2_eq (P : Program) (T : Tab) (D : DTab) (N : Nat) {β : Type} (xn : AV → AV → AV → Hp → Option β) (x0 : AV → Hp → Option β) (xd : Nat → St → Option β) (xq : St → Option β) (t : Tm) (h : Hp) : o_ref41_Repeated_L2 P T D N t h (fun (e : Ex) (s : St) => e.on (xn (s.1 1) (s.1 7) (s.1 8) s.2) (fun i => (bif i == 0 then x0 (s.1 7) s.2 else (xd i s))) (xq s)) = f_ref41_Repeated_b2 P T D N xn x0 (t 1) (t 7) (t 8) h := by kernel_rfl
theorem f_ref41_Repeated_L2_eq (P : Program) (T : Tab) (D : DTab) (N : Nat) {β : Type} (A : Ex → St → Option β) (x0 : AV → Hp → Option β) (q0 : ∀ s, A (.exit 0) s = x0 (s.1 7) s.2) : ∀ (n : Nat) (s : St), iterK (fun s k => o_ref41_Repeated_L2 P T D N s.1 s.2 k) n s A = f_ref41_Repeated_L2 P T D N x0 n (s.1 1) (s.1 7) (s.1 8) s.2 := by
  intro n
  induction n with
  | zero => intro s; rfl
  | succ n ih =>
    intro s
    have hk : (fun (e : Ex) (s' : St) => Ex.on e (iterK (fun s k => o_ref41_Repeated_L2 P T D N s.1 s.2 k) n s' A) (fun i => A (.exit i) s') (A .ret s')) = (fun (e : Ex) (s : St) => e.on ((f_ref41_Repeated_L2 P T D N x0 n) (s.1 1) (s.1 7) (s.1 8) s.2) (fun i => (bif i == 0 then x0 (s.1 7) s.2 else (A (.exit i) s))) (A .ret s)) := by
      funext e s'
      cases e with
      | normal => exact ih s'
      | ret => exact rfl
      | exit i =>
        by_cases r0 : i = 0
        · subst r0; exact q0 s'
        simp only [Ex.on, beq_false_of_ne r0, cond_false]
    show o_ref41_Repeated_L2 P T D N s.1 s.2 (fun (e : Ex) (s' : St) => Ex.on e (iterK (fun s k => o_ref41_Repeated_L2 P T D N s.1 s.2 k) n s' A) (fun i => A (.exit i) s') (A .ret s')) = _
    rw [hk]
    exact f_ref41_Repeated_b2_eq P T D N (f_ref41_Repeated_L2 P T D N x0 n) x0 (fun i s => A (.exit i) s) (fun s => A .ret s) s.1 s.2
theorem f_ref41_Repeated_old_eq (P : Program) (T : Tab) (D : DTab) (N : Nat) {β : Type} (K : AV → Hp → Option β) (a0 : AV) (a1 : AV) (h : Hp) : o_ref41_Repeated P T D N K a0 a1 h = f_ref41_Repeated P T D N K a0 a1 h := by
  have eL2 : (fun s : St => iterK (fun s k => o_ref41_Repeated_L2 P T D N s.1 s.2 k) N s (o_ref41_Repeated_aL2 P T D N K)) = (fun s : St => f_ref41_Repeated_L2 P T D N (fun w13_7 h => f_ref41_Repeated_j1 P T D N K w13_7 h) N (s.1 1) (s.1 7) (s.1 8) s.2) := funext fun s => f_ref41_Repeated_L2_eq P T D N (o_ref41_Repeated_aL2 P T D N K) (fun w13_7 h => f_ref41_Repeated_j1 P T D N K w13_7 h) (fun s => rfl) N s
  show o_ref41_Repeated_G P T D N (fun s => iterK (fun s k => o_ref41_Repeated_L2 P T D N s.1 s.2 k) N s (o_ref41_Repeated_aL2 P T D N K)) K a0 a1 h = _
  rw [eL2]
  kernel_rfl
theorem o_ref41_Repeated_run (T : Tab) (D : DTab) (N : Nat) {β : Type} (K : AV → Hp → Option β) (a0 : AV) (a1 : AV) (h : Hp) : runK Try.prog T D N [0, 1, 4, 5, 6, 7, 8, 13, 18, 28] Try.f25 K [a0, a1] h = o_ref41_Repeated Try.prog T D N K a0 a1 h := by kernel_rfl
theorem f_ref41_Repeated_run (T : Tab) (D : DTab) (N : Nat) {β : Type} (K : AV → Hp → Option β) (a0 : AV) (a1 : AV) (h : Hp) : runK Try.prog T D N [0, 1, 4, 5, 6, 7, 8, 13, 18, 28] Try.f25 K [a0, a1] h = f_ref41_Repeated Try.prog T D N K a0 a1 h := (o_ref41_Repeated_run T D N K a0 a1 h).trans (f_ref41_Repeated_old_eq Try.prog T D N K a0 a1 h)
noncomputable def o_network_Crossed_j1 (P : Program) (T : Tab) (D : DTab) (N : Nat) {β : Type} (K : AV → Hp → Option β) (t : Tm) (h : Hp) : Option β :=
K (.tup [(t 8), (.s (.int .i64 0))]) h
noncomputable def o_network_Crossed_j3 (P : Program) (T : Tab) (D : DTab) (N : Nat) {β : Type} (k : Ex → St → Option β) (t : Tm) (h : Hp) : Option β :=
k .normal (t, h)
noncomputable def o_network_Crossed_j4 (P : Program) (T : Tab) (D : DTab) (N : Nat) {β : Type} (k : Ex → St → Option β) (t : Tm) (h : Hp) : Option β :=
(o_network_Crossed_j3 P T D N k t h)
noncomputable def o_network_Crossed_j6 (P : Program) (T : Tab) (D : DTab) (N : Nat) {β : Type} (k : Ex → St → Option β) (t : Tm) (h : Hp) : Option β :=
k .normal (t, h)
noncomputable def o_network_Crossed_L5 (P : Program) (T : Tab) (D : DTab) (N : Nat) {β : Type} (t : Tm) (h : Hp) (k : Ex → St → Option β) : Option β :=
nextK (t 30) h fun x16 h17 =>
exK x16 0 fun x18 =>
condK x18 (
entryK (t 30) h17 fun x19 =>
exK x19 0 fun x20 =>
exK x19 1 fun x21 =>
arithK .lss (t 9) x20 fun x22 =>
grpK true x22 h17 (fun k23 =>
arithK .gtr (t 10) x21 fun x24 =>
k23 x24 h17) fun x25 h26 =>
condK x25 (
arithK .add (t 8) (.s (.int .i64 1)) fun x27 =>
(o_network_Crossed_j6 P T D N k (upd (upd (upd (upd (upd t 32 x18) 11 x20) 12 x21) 43 x25) 8 x27) h26)) (
(o_network_Crossed_j6 P T D N k (upd (upd (upd (upd t 32 x18) 11 x20) 12 x21) 43 x25) h26))) (
k (.exit 2) ((upd t 32 x18), h17))
noncomputable def o_network_Crossed_aL5 (P : Program) (T : Tab) (D : DTab) (N : Nat) {β : Type} (k : Ex → St → Option β) (e : Ex) (s : St) : Option β :=
  e.on ((o_network_Crossed_j4 P T D N k s.1 s.2))
  (fun i => bif i == 2 then ((o_network_Crossed_j4 P T D N k s.1 s.2)) else (bif i == 1 then ((o_network_Crossed_j3 P T D N k s.1 s.2)) else (k (.exit i) (s.1, s.2))))
  (k .ret (s.1, s.2))
noncomputable def o_network_Crossed_L2_G (P : Program) (T : Tab) (D : DTab) (N : Nat) {β : Type} (cL5 : St → Option β) (t : Tm) (h : Hp) (k : Ex → St → Option β) :  Option β :=
nextK (t 23) h fun x8 h9 =>
exK x8 0 fun x10 =>
condK x10 (
entryK (t 23) h9 fun x11 =>
exK x11 0 fun x12 =>
exK x11 1 fun x13 =>
effK (rngE (t 7) h9 (List.length h9)) h9 fun x14 h15 =>
cL5 ((upd (upd (upd (upd t 25 x10) 9 x12) 10 x13) 30 x14), h15)) (
k (.exit 0) ((upd t 25 x10), h9))
noncomputable def o_network_Crossed_L2 (P : Program) (T : Tab) (D : DTab) (N : Nat) {β : Type} (t : Tm) (h : Hp) (k : Ex → St → Option β) : Option β := o_network_Crossed_L2_G P T D N (fun s => iterK (fun s k => o_network_Crossed_L5 P T D N s.1 s.2 k) N s (o_network_Crossed_aL5 P T D N k)) t h k
noncomputable def o_network_Crossed_aL2 (P : Program) (T : Tab) (D : DTab) (N : Nat) {β : Type} (K : AV → Hp → Option β) (e : Ex) (s : St) : Option β :=
  e.on ((o_network_Crossed_j1 P T D N K s.1 s.2))
  (fun i => bif i == 0 then ((o_network_Crossed_j1 P T D N K s.1 s.2)) else (none))
  (K (.tup [(s.1 4), (s.1 5)]) s.2)
noncomputable def o_network_Crossed_G (P : Program) (T : Tab) (D : DTab) (N : Nat) {β : Type} (cL2 : St → Option β) (K : AV → Hp → Option β) (a0 : AV) (a1 : AV) (h : Hp) :  Option β :=
callK (T 53) [a0, a1] h fun x1 h2 =>
eqK P true 26 x1 (.s (.int .i64 0)) h2 fun x3 =>
condK x3 (
K (.tup [(.s (.int .i64 0)), x1]) h2) (
callK (T 54) [a0, a1] h2 fun x4 h5 =>
effK (rngE x4 h5 (List.length h5)) h5 fun x6 h7 =>
cL2 ((upd (upd (upd (upd (upd (upd (upd (tm0 [a0, a1]) 4 (.s (.int .i64 0))) 5 (.s (.int .i64 0))) 6 x1) 17 x3) 7 x4) 8 (.s (.int .i64 0))) 23 x6), h7))
noncomputable def o_network_Crossed (P : Program) (T : Tab) (D : DTab) (N : Nat) {β : Type} (K : AV → Hp → Option β) (a0 : AV) (a1 : AV) (h : Hp) : Option β := o_network_Crossed_G P T D N (fun s => iterK (fun s k => o_network_Crossed_L2 P T D N s.1 s.2 k) N s (o_network_Crossed_aL2 P T D N K)) K a0 a1 h
noncomputable def f_network_Crossed_j1 (P : Program) (T : Tab) (D : DTab) (N : Nat) {β : Type} (K : AV → Hp → Option β) (v8 : AV) (h : Hp) : Option β :=
K (.tup [v8, (.s (.int .i64 0))]) h
noncomputable def f_network_Crossed_j3 (P : Program) (T : Tab) (D : DTab) (N : Nat) {β : Type} (xn : AV → AV → AV → Hp → Option β) (x0 : AV → Hp → Option β) (v7 : AV) (v8 : AV) (v23 : AV) (h : Hp) : Option β :=
xn v7 v8 v23 h
noncomputable def f_network_Crossed_j4 (P : Program) (T : Tab) (D : DTab) (N : Nat) {β : Type} (xn : AV → AV → AV → Hp → Option β) (x0 : AV → Hp → Option β) (v7 : AV) (v8 : AV) (v23 : AV) (h : Hp) : Option β :=
f_network_Crossed_j3 P T D N xn x0 v7 v8 v23 h
noncomputable def f_network_Crossed_j6 (P : Program) (T : Tab) (D : DTab) (N : Nat) {β : Type} (xn : AV → AV → AV → AV → AV → AV → Hp → Option β) (x2 : AV → AV → AV → Hp → Option β) (v7 : AV) (v8 : AV) (v9 : AV) (v10 : AV) (v23 : AV) (v30 : AV) (h : Hp) : Option β :=
xn v7 v8 v9 v10 v23 v30 h
noncomputable def f_network_Crossed_b5 (P : Program) (T : Tab) (D : DTab) (N : Nat) {β : Type} (xn : AV → AV → AV → AV → AV → AV → Hp → Option β) (x2 : AV → AV → AV → Hp → Option β) (v7 : AV) (v8 : AV) (v9 : AV) (v10 : AV) (v23 : AV) (v30 : AV) (h : Hp) : Option β :=
nextK v30 h fun x16 h17 =>
exK x16 0 fun x18 =>
condK x18 (
entryK v30 h17 fun x19 =>
exK x19 0 fun x20 =>
exK x19 1 fun x21 =>
arithK .lss v9 x20 fun x22 =>
grpK true x22 h17 (fun k23 =>
arithK .gtr v10 x21 fun x24 =>
k23 x24 h17) fun x25 h26 =>
condK x25 (
arithK .add v8 (.s (.int .i64 1)) fun x27 =>
f_network_Crossed_j6 P T D N xn x2 v7 x27 v9 v10 v23 v30 h26) (
f_network_Crossed_j6 P T D N xn x2 v7 v8 v9 v10 v23 v30 h26)) (
x2 v7 v8 v23 h17)
noncomputable def f_network_Crossed_L5 (P : Program) (T : Tab) (D : DTab) (N : Nat) {β : Type} (x2 : AV → AV → AV → Hp → Option β) : Nat → AV → AV → AV → AV → AV → AV → Hp → Option β
  | 0 => fun _ _ _ _ _ _ _ => none
  | n + 1 => fun v7 v8 v9 v10 v23 v30 h => f_network_Crossed_b5 P T D N (f_network_Crossed_L5 P T D N x2 n) x2 v7 v8 v9 v10 v23 v30 h
noncomputable def f_network_Crossed_b2 (P : Program) (T : Tab) (D : DTab) (N : Nat) {β : Type} (xn : AV → AV → AV → Hp → Option β) (x0 : AV → Hp → Option β) (v7 : AV) (v8 : AV) (v23 : AV) (h : Hp) : Option β :=
nextK v23 h fun x8 h9 =>
exK x8 0 fun x10 =>
condK x10 (
entryK v23 h9 fun x11 =>
exK x11 0 fun x12 =>
exK x11 1 fun x13 =>
effK (rngE v7 h9 (List.length h9)) h9 fun x14 h15 =>
f_network_Crossed_L5 P T D N (fun w28_7 w28_8 w28_23 h => f_network_Crossed_j4 P T D N xn x0 w28_7 w28_8 w28_23 h) N v7 v8 x12 x13 v23 x14 h15) (
x0 v8 h9)
noncomputable def f_network_Crossed_L2 (P : Program) (T : Tab) (D : DTab) (N : Nat) {β : Type} (x0 : AV → Hp → Option β) : Nat → AV → AV → AV → Hp → Option β
  | 0 => fun _ _ _ _ => none
  | n + 1 => fun v7 v8 v23 h => f_network_Crossed_b2 P T D N (f_network_Crossed_L2 P T D N x0 n) x0 v7 v8 v23 h
noncomputable def f_network_Crossed (P : Program) (T : Tab) (D : DTab) (N : Nat) {β : Type} (K : AV → Hp → Option β) (a0 : AV) (a1 : AV) (h : Hp) : Option β :=
callK (T 53) [a0, a1] h fun x1 h2 =>
eqK P true 26 x1 (.s (.int .i64 0)) h2 fun x3 =>
condK x3 (
K (.tup [(.s (.int .i64 0)), x1]) h2) (
callK (T 54) [a0, a1] h2 fun x4 h5 =>
effK (rngE x4 h5 (List.length h5)) h5 fun x6 h7 =>
f_network_Crossed_L2 P T D N (fun w29_8 h => f_network_Crossed_j1 P T D N K w29_8 h) N x4 (.s (.int .i64 0)) x6 h7)
theorem f_network_Crossed_b5_eq (P : Program) (T : Tab) (D : DTab) (N : Nat) {β : Type} (xn : AV → AV → AV → AV → AV → AV → Hp → Option β) (x2 : AV → AV → AV → Hp → Option β) (xd : Nat → St → Option β) (xq : St → Option β) (t : Tm) (h : Hp) : o_network_Crossed_L5 P T D N t h (fun (e : Ex) (s : St) => e.on (xn (s.1 7) (s.1 8) (s.1 9) (s.1 10) (s.1 23) (s.1 30) s.2) (fun i => (bif i == 2 then x2 (s.1 7) (s.1 8) (s.1 23) s.2 else (xd i s))) (xq s)) = f_network_Crossed_b5 P T D N xn x2 (t 7) (t 8) (t 9) (t 10) (t 23) (t 30) h := by kernel_rfl
theorem f_network_Crossed_L5_eq (P : Program) (T : Tab) (D : DTab) (N : Nat) {β : Type} (A : Ex → St → Option β) (x2 : AV → AV → AV → Hp → Option β) (q2 : ∀ s, A (.exit 2) s = x2 (s.1 7) (s.1 8) (s.1 23) s.2) : ∀ (n : Nat) (s : St), iterK (fun s k => o_network_Crossed_L5 P T D N s.1 s.2 k) n s A = f_network_Crossed_L5 P T D N x2 n (s.1 7) (s.1 8) (s.1 9) (s.1 10) (s.1 23) (s.1 30) s.2 := by
  intro n
  induction n with
  | zero => intro s; rfl
  | succ n ih =>
    intro s
    have hk : (fun (e : Ex) (s' : St) => Ex.on e (iterK (fun s k => o_network_Crossed_L5 P T D N s.1 s.2 k) n s' A) (fun i => A (.exit i) s') (A .ret s')) = (fun (e : Ex) (s : St) => e.on ((f_network_Crossed_L5 P T D N x2 n) (s.1 7) (s.1 8) (s.1 9) (s.1 10) (s.1 23) (s.1 30) s.2) (fun i => (bif i == 2 then x2 (s.1 7) (s.1 8) (s.1 23) s.2 else (A (.exit i) s))) (A .ret s)) := by
      funext e s'
      cases e with
      | normal => exact ih s'
      | ret => exact rfl
      | exit i =>
        by_cases r2 : i = 2
        · subst r2; exact q2 s'
        simp only [Ex.on, beq_false_of_ne r2, cond_false]
    show o_network_Crossed_L5 P T D N s.1 s.2 (fun (e : Ex) (s' : St) => Ex.on e (iterK (fun s k => o_network_Crossed_L5 P T D N s.1 s.2 k) n s' A) (fun i => A (.exit i) s') (A .ret s')) = _
    rw [hk]
    exact f_network_Crossed_b5_eq P T D N (f_network_Crossed_L5 P T D N x2 n) x2 (fun i s => A (.exit i) s) (fun s => A .ret s) s.1 s.2
theorem f_network_Crossed_b2_eq (P : Program) (T : Tab) (D : DTab) (N : Nat) {β : Type} (xn : AV → AV → AV → Hp → Option β) (x0 : AV → Hp → Option β) (xd : Nat → St → Option β) (xq : St → Option β) (t : Tm) (h : Hp) : o_network_Crossed_L2 P T D N t h (fun (e : Ex) (s : St) => e.on (xn (s.1 7) (s.1 8) (s.1 23) s.2) (fun i => (bif i == 0 then x0 (s.1 8) s.2 else (xd i s))) (xq s)) = f_network_Crossed_b2 P T D N xn x0 (t 7) (t 8) (t 23) h := by
  have eL5 : (fun s : St => iterK (fun s k => o_network_Crossed_L5 P T D N s.1 s.2 k) N s (o_network_Crossed_aL5 P T D N (fun (e : Ex) (s : St) => e.on (xn (s.1 7) (s.1 8) (s.1 23) s.2) (fun i => (bif i == 0 then x0 (s.1 8) s.2 else (xd i s))) (xq s)))) = (fun s : St => f_network_Crossed_L5 P T D N (fun w28_7 w28_8 w28_23 h => f_network_Crossed_j4 P T D N xn x0 w28_7 w28_8 w28_23 h) N (s.1 7) (s.1 8) (s.1 9) (s.1 10) (s.1 23) (s.1 30) s.2) := funext fun s => f_network_Crossed_L5_eq P T D N (o_network_Crossed_aL5 P T D N (fun (e : Ex) (s : St) => e.on (xn (s.1 7) (s.1 8) (s.1 23) s.2) (fun i => (bif i == 0 then x0 (s.1 8) s.2 else (xd i s))) (xq s))) (fun w28_7 w28_8 w28_23 h => f_network_Crossed_j4 P T D N xn x0 w28_7 w28_8 w28_23 h) (fun s => rfl) N s
  show o_network_Crossed_L2_G P T D N (fun s => iterK (fun s k => o_network_Crossed_L5 P T D N s.1 s.2 k) N s (o_network_Crossed_aL5 P T D N (fun (e : Ex) (s : St) => e.on (xn (s.1 7) (s.1 8) (s.1 23) s.2) (fun i => (bif i == 0 then x0 (s.1 8) s.2 else (xd i s))) (xq s)))) t h (fun (e : Ex) (s : St) => e.on (xn (s.1 7) (s.1 8) (s.1 23) s.2) (fun i => (bif i == 0 then x0 (s.1 8) s.2 else (xd i s))) (xq s)) = _
  rw [eL5]
  kernel_rfl
theorem f_network_Crossed_L2_eq (P : Program) (T : Tab) (D : DTab) (N : Nat) {β : Type} (A : Ex → St → Option β) (x0 : AV → Hp → Option β) (q0 : ∀ s, A (.exit 0) s = x0 (s.1 8) s.2) : ∀ (n : Nat) (s : St), iterK (fun s k => o_network_Crossed_L2 P T D N s.1 s.2 k) n s A = f_network_Crossed_L2 P T D N x0 n (s.1 7) (s.1 8) (s.1 23) s.2 := by
  intro n
  induction n with
  | zero => intro s; rfl
  | succ n ih =>
    intro s
    have hk : (fun (e : Ex) (s' : St) => Ex.on e (iterK (fun s k => o_network_Crossed_L2 P T D N s.1 s.2 k) n s' A) (fun i => A (.exit i) s') (A .ret s')) = (fun (e : Ex) (s : St) => e.on ((f_network_Crossed_L2 P T D N x0 n) (s.1 7) (s.1 8) (s.1 23) s.2) (fun i => (bif i == 0 then x0 (s.1 8) s.2 else (A (.exit i) s))) (A .ret s)) := by
      funext e s'
      cases e with
      | normal => exact ih s'
      | ret => exact rfl
      | exit i =>
        by_cases r0 : i = 0
        · subst r0; exact q0 s'
        simp only [Ex.on, beq_false_of_ne r0, cond_false]
    show o_network_Crossed_L2 P T D N s.1 s.2 (fun (e : Ex) (s' : St) => Ex.on e (iterK (fun s k => o_network_Crossed_L2 P T D N s.1 s.2 k) n s' A) (fun i => A (.exit i) s') (A .ret s')) = _
    rw [hk]
    exact f_network_Crossed_b2_eq P T D N (f_network_Crossed_L2 P T D N x0 n) x0 (fun i s => A (.exit i) s) (fun s => A .ret s) s.1 s.2
theorem f_network_Crossed_old_eq (P : Program) (T : Tab) (D : DTab) (N : Nat) {β : Type} (K : AV → Hp → Option β) (a0 : AV) (a1 : AV) (h : Hp) : o_network_Crossed P T D N K a0 a1 h = f_network_Crossed P T D N K a0 a1 h := by
  have eL2 : (fun s : St => iterK (fun s k => o_network_Crossed_L2 P T D N s.1 s.2 k) N s (o_network_Crossed_aL2 P T D N K)) = (fun s : St => f_network_Crossed_L2 P T D N (fun w29_8 h => f_network_Crossed_j1 P T D N K w29_8 h) N (s.1 7) (s.1 8) (s.1 23) s.2) := funext fun s => f_network_Crossed_L2_eq P T D N (o_network_Crossed_aL2 P T D N K) (fun w29_8 h => f_network_Crossed_j1 P T D N K w29_8 h) (fun s => rfl) N s
  show o_network_Crossed_G P T D N (fun s => iterK (fun s k => o_network_Crossed_L2 P T D N s.1 s.2 k) N s (o_network_Crossed_aL2 P T D N K)) K a0 a1 h = _
  rw [eL2]
  kernel_rfl
theorem o_network_Crossed_run (T : Tab) (D : DTab) (N : Nat) {β : Type} (K : AV → Hp → Option β) (a0 : AV) (a1 : AV) (h : Hp) : runK Try.prog T D N [0, 1, 4, 5, 6, 7, 8, 9, 10, 11, 12, 17, 23, 25, 30, 32, 43] Try.f26 K [a0, a1] h = o_network_Crossed Try.prog T D N K a0 a1 h := by kernel_rfl
theorem f_network_Crossed_run (T : Tab) (D : DTab) (N : Nat) {β : Type} (K : AV → Hp → Option β) (a0 : AV) (a1 : AV) (h : Hp) : runK Try.prog T D N [0, 1, 4, 5, 6, 7, 8, 9, 10, 11, 12, 17, 23, 25, 30, 32, 43] Try.f26 K [a0, a1] h = f_network_Crossed Try.prog T D N K a0 a1 h := (o_network_Crossed_run T D N K a0 a1 h).trans (f_network_Crossed_old_eq Try.prog T D N K a0 a1 h)
noncomputable def o_ref41_Crossed_j1 (P : Program) (T : Tab) (D : DTab) (N : Nat) {β : Type} (K : AV → Hp → Option β) (t : Tm) (h : Hp) : Option β :=
K (.tup [(t 7), (.s (.int .i64 0))]) h
noncomputable def o_ref41_Crossed_j3 (P : Program) (T : Tab) (D : DTab) (N : Nat) {β : Type} (k : Ex → St → Option β) (t : Tm) (h : Hp) : Option β :=
arithK .add (t 8) (.s (.int .i64 1)) fun x6 =>
k .normal ((upd t 8 x6), h)
noncomputable def o_ref41_Crossed_j4 (P : Program) (T : Tab) (D : DTab) (N : Nat) {β : Type} (k : Ex → St → Option β) (t : Tm) (h : Hp) : Option β :=
(o_ref41_Crossed_j3 P T D N k t h)
noncomputable def o_ref41_Crossed_j6 (P : Program) (T : Tab) (D : DTab) (N : Nat) {β : Type} (k : Ex → St → Option β) (t : Tm) (h : Hp) : Option β :=
arithK .add (t 9) (.s (.int .i64 1)) fun x8 =>
k .normal ((upd t 9 x8), h)
noncomputable def o_ref41_Crossed_j7 (P : Program) (T : Tab) (D : DTab) (N : Nat) {β : Type} (k : Ex → St → Option β) (t : Tm) (h : Hp) : Option β :=
(o_ref41_Crossed_j6 P T D N k t h)
noncomputable def o_ref41_Crossed_L5 (P : Program) (T : Tab) (D : DTab) (N : Nat) {β : Type} (t : Tm) (h : Hp) (k : Ex → St → Option β) : Option β :=
arithK .lss (t 9) (t 8) fun x7 =>
condK x7 (
callK (T 55) [(t 1), (t 9)] h fun x9 h10 =>
callK (T 55) [(t 1), (t 8)] h10 fun x11 h12 =>
arithK .geq x11 (.s (.int .i64 0)) fun x13 =>
grpK true x13 h12 (fun k14 =>
arithK .gtr x9 x11 fun x15 =>
k14 x15 h12) fun x16 h17 =>
condK x16 (
arithK .add (t 7) (.s (.int .i64 1)) fun x18 =>
(o_ref41_Crossed_j7 P T D N k (upd (upd (upd (upd (upd t 26 x7) 10 x9) 11 x11) 41 x16) 7 x18) h17)) (
(o_ref41_Crossed_j7 P T D N k (upd (upd (upd (upd t 26 x7) 10 x9) 11 x11) 41 x16) h17))) (
k (.exit 2) ((upd t 26 x7), h))
noncomputable def o_ref41_Crossed_aL5 (P : Program) (T : Tab) (D : DTab) (N : Nat) {β : Type} (k : Ex → St → Option β) (e : Ex) (s : St) : Option β :=
  e.on ((o_ref41_Crossed_j4 P T D N k s.1 s.2))
  (fun i => bif i == 2 then ((o_ref41_Crossed_j4 P T D N k s.1 s.2)) else (bif i == 1 then ((o_ref41_Crossed_j3 P T D N k s.1 s.2)) else (k (.exit i) (s.1, s.2))))
  (k .ret (s.1, s.2))
noncomputable def o_ref41_Crossed_L2_G (P : Program) (T : Tab) (D : DTab) (N : Nat) {β : Type} (cL5 : St → Option β) (t : Tm) (h : Hp) (k : Ex → St → Option β) :  Option β :=
lenK (t 0) fun x4 =>
arithK .lss (t 8) x4 fun x5 =>
condK x5 (
cL5 ((upd (upd t 21 x5) 9 (.s (.int .i64 0))), h)) (
k (.exit 0) ((upd t 21 x5), h))
noncomputable def o_ref41_Crossed_L2 (P : Program) (T : Tab) (D : DTab) (N : Nat) {β : Type} (t : Tm) (h : Hp) (k : Ex → St → Option β) : Option β := o_ref41_Crossed_L2_G P T D N (fun s => iterK (fun s k => o_ref41_Crossed_L5 P T D N s.1 s.2 k) N s (o_ref41_Crossed_aL5 P T D N k)) t h k
noncomputable def o_ref41_Crossed_aL2 (P : Program) (T : Tab) (D : DTab) (N : Nat) {β : Type} (K : AV → Hp → Option β) (e : Ex) (s : St) : Option β :=
  e.on ((o_ref41_Crossed_j1 P T D N K s.1 s.2))
  (fun i => bif i == 0 then ((o_ref41_Crossed_j1 P T D N K s.1 s.2)) else (none))
  (K (.tup [(s.1 4), (s.1 5)]) s.2)
noncomputable def o_ref41_Crossed_G (P : Program) (T : Tab) (D : DTab) (N : Nat) {β : Type} (cL2 : St → Option β) (K : AV → Hp → Option β) (a0 : AV) (a1 : AV) (h : Hp) :  Option β :=
callK (T 50) [a0, a1] h fun x1 h2 =>
eqK P true 26 x1 (.s (.int .i64 0)) h2 fun x3 =>
condK x3 (
K (.tup [(.s (.int .i64 0)), x1]) h2) (
cL2 ((upd (upd (upd (upd (upd (upd (tm0 [a0, a1]) 4 (.s (.int .i64 0))) 5 (.s (.int .i64 0))) 6 x1) 16 x3) 7 (.s (.int .i64 0))) 8 (.s (.int .i64 0))), h2))
noncomputable def o_ref41_Crossed (P : Program) (T : Tab) (D : DTab) (N : Nat) {β : Type} (K : AV → Hp → Option β) (a0 : AV) (a1 : AV) (h : Hp) : Option β := o_ref41_Crossed_G P T D N (fun s => iterK (fun s k => o_ref41_Crossed_L2 P T D N s.1 s.2 k) N s (o_ref41_Crossed_aL2 P T D N K)) K a0 a1 h
noncomputable def f_ref41_Crossed_j1 (P : Program) (T : Tab) (D : DTab) (N : Nat) {β : Type} (K : AV → Hp → Option β) (v7 : AV) (h : Hp) : Option β :=
K (.tup [v7, (.s (.int .i64 0))]) h
noncomputable def f_ref41_Crossed_j3 (P : Program) (T : Tab) (D : DTab) (N : Nat) {β : Type} (xn : AV → AV → AV → AV → Hp → Option β) (x0 : AV → Hp → Option β) (v0 : AV) (v1 : AV) (v7 : AV) (v8 : AV) (h : Hp) : Option β :=
arithK .add v8 (.s (.int .i64 1)) fun x6 =>
xn v0 v1 v7 x6 h
noncomputable def f_ref41_Crossed_j4 (P : Program) (T : Tab) (D : DTab) (N : Nat) {β : Type} (xn : AV → AV → AV → AV → Hp → Option β) (x0 : AV → Hp → Option β) (v0 : AV) (v1 : AV) (v7 : AV) (v8 : AV) (h : Hp) : Option β :=
f_ref41_Crossed_j3 P T D N xn x0 v0 v1 v7 v8 h
noncomputable def f_ref41_Crossed_j6 (P : Program) (T : Tab) (D : DTab) (N : Nat) {β : Type} (xn : AV → AV → AV → AV → AV → Hp → Option β) (x2 : AV → AV → AV → AV → Hp → Option β) (v0 : AV) (v1 : AV) (v7 : AV) (v8 : AV) (v9 : AV) (h : Hp) : Option β :=
arithK .add v9 (.s (.int .i64 1)) fun x8 =>
xn v0 v1 v7 v8 x8 h
noncomputable def f_ref41_Crossed_j7 (P : Program) (T : Tab) (D : DTab) (N : Nat) {β : Type} (xn : AV → AV → AV → AV → AV → Hp → Option β) (x2 : AV → AV → AV → AV → Hp → Option β) (v0 : AV) (v1 : AV) (v7 : AV) (v8 : AV) (v9 : AV) (h : Hp) : Option β :=
f_ref41_Crossed_j6 P T D N xn x2 v0 v1 v7 v8 v9 h
noncomputable def f_ref41_Crossed_b5 (P : Program) (T : Tab) (D : DTab) (N : Nat) {β : Type} (xn : AV → AV → AV → AV → AV → Hp → Option β) (x2 : AV → AV → AV → AV → Hp → Option β) (v0 : AV) (v1 : AV) (v7 : AV) (v8 : AV) (v9 : AV) (h : Hp) : Option β :=
arithK .lss v9 v8 fun x7 =>
condK x7 (
callK (T 55) [v1, v9] h fun x9 h10 =>
callK (T 55) [v1, v8] h10 fun x11 h12 =>
arithK .geq x11 (.s (.int .i64 0)) fun x13 =>
grpK true x13 h12 (fun k14 =>
arithK .gtr x9 x11 fun x15 =>
k14 x15 h12) fun x16 h17 =>
condK x16 (
arithK .add v7 (.s (.int .i64 1)) fun x18 =>
f_ref41_Crossed_j7 P T D N xn x2 v0 v1 x18 v8 v9 h17) (
f_ref41_Crossed_j7 P T D N xn x2 v0 v1 v7 v8 v9 h17)) (
x2 v0 v1 v7 v8 h)
noncomputable def f_ref41_Crossed_L5 (P : Program) (T : Tab) (D : DTab) (N : Nat) {β : Type} (x2 : AV → AV → AV → AV → Hp → Option β) : Nat → AV → AV → AV → AV → AV → Hp → Option β
  | 0 => fun _ _ _ _ _ _ => none
  | n + 1 => fun v0 v1 v7 v8 v9 h => f_ref41_Crossed_b5 P T D N (f_ref41_Crossed_L5 P T D N x2 n) x2 v0 v1 v7 v8 v9 h
noncomputable def f_ref41_Crossed_b2 (P : Program) (T : Tab) (D : DTab) (N : Nat) {β : Type} (xn : AV → AV → AV → AV → Hp → Option β) (x0 : AV → Hp → Option β) (v0 : AV) (v1 : AV) (v7 : AV) (v8 : AV) (h : Hp) : Option β :=
lenK v0 fun x4 =>
arithK .lss v8 x4 fun x5 =>
condK x5 (
f_ref41_Crossed_L5 P T D N (fun w19_0 w19_1 w19_7 w19_8 h => f_ref41_Crossed_j4 P T D N xn x0 w19_0 w19_1 w19_7 w19_8 h) N v0 v1 v7 v8 (.s (.int .i64 0)) h) (
x0 v7 h)
noncomputable def f_ref41_Crossed_L2 (P : Program) (T : Tab) (D : DTab) (N : Nat) {β : Type} (x0 : AV → Hp → Option β) : Nat → AV → AV → AV → AV → Hp → Option β
  | 0 => fun _ _ _ _ _ => none
  | n + 1 => fun v0 v1 v7 v8 h => f_ref41_Crossed_b2 P T D N (f_ref41_Crossed_L2 P T D N x0 n) x0 v0 v1 v7 v8 h
noncomputable def f_ref41_Crossed (P : Program) (T : Tab) (D : DTab) (N : Nat) {β : Type} (K : AV → Hp → Option β) (a0 : AV) (a1 : AV) (h : Hp) : Option β :=
callK (T 50) [a0, a1] h fun x1 h2 =>
eqK P true 26 x1 (.s (.int .i64 0)) h2 fun x3 =>
condK x3 (
K (.tup [(.s (.int .i64 0)), x1]) h2) (
f_ref41_Crossed_L2 P T D N (fun w20_7 h => f_ref41_Crossed_j1 P T D N K w20_7 h) N a0 a1 (.s (.int .i64 0)) (.s (.int .i64 0)) h2)
theorem f_ref41_Crossed_b5_eq (P : Program) (T : Tab) (D : DTab) (N : Nat) {β : Type} (xn : AV → AV → AV → AV → AV → Hp → Option β) (x2 : AV → AV → AV → AV → Hp → Option β) (xd : Nat → St → Option β) (xq : St → Option β) (t : Tm) (h : Hp) : o_ref41_Crossed_L5 P T D N t h (fun (e : Ex) (s : St) => e.on (xn (s.1 0) (s.1 1) (s.1 7) (s.1 8) (s.1 9) s.2) (fun i => (bif i == 2 then x2 (s.1 0) (s.1 1) (s.1 7) (s.1 8) s.2 else (xd i s))) (xq s)) = f_ref41_Crossed_b5 P T D N xn x2 (t 0) (t 1) (t 7) (t 8) (t 9) h := by kernel_rfl
theorem f_ref41_Crossed_L5_eq (P : Program) (T : Tab) (D : DTab) (N : Nat) {β : Type} (A : Ex → St → Option β) (x2 : AV → AV → AV → AV → Hp → Option β) (q2 : ∀ s, A (.exit 2) s = x2 (s.1 0) (s.1 1) (s.1 7) (s.1 8) s.2) : ∀ (n : Nat) (s : St), iterK (fun s k => o_ref41_Crossed_L5 P T D N s.1 s.2 k) n s A = f_ref41_Crossed_L5 P T D N x2 n (s.1 0) (s.1 1) (s.1 7) (s.1 8) (s.1 9) s.2 := by
  intro n
  induction n with
  | zero => intro s; rfl
  | succ n ih =>
    intro s
    have hk : (fun (e : Ex) (s' : St) => Ex.on e (iterK (fun s k => o_ref41_Crossed_L5 P T D N s.1 s.2 k) n s' A) (fun i => A (.exit i) s') (A .ret s')) = (fun (e : Ex) (s : St) => e.on ((f_ref41_Crossed_L5 P T D N x2 n) (s.1 0) (s.1 1) (s.1 7) (s.1 8) (s.1 9) s.2) (fun i => (bif i == 2 then x2 (s.1 0) (s.1 1) (s.1 7) (s.1 8) s.2 else (A (.exit i) s))) (A .ret s)) := by
      funext e s'
      cases e with
      | normal => exact ih s'
      | ret => exact rfl
      | exit i =>
        by_cases r2 : i = 2
        · subst r2; exact q2 s'
        simp only [Ex.on, beq_false_of_ne r2, cond_false]
    show o_ref41_Crossed_L5 P T D N s.1 s.2 (fun (e : Ex) (s' : St) => Ex.on e (iterK (fun s k => o_ref41_Crossed_L5 P T D N s.1 s.2 k) n s' A) (fun i => A (.exit i) s') (A .ret s')) = _
    rw [hk]
    exact f_ref41_Crossed_b5_eq P T D N (f_ref41_Crossed_L5 P T D N x2 n) x2 (fun i s => A (.exit i) s) (fun s => A .ret s) s.1 s.2
theorem f_ref41_Crossed_b2_eq (P : Program) (T : Tab) (D : DTab) (N : Nat) {β : Type} (xn : AV → AV → AV → AV → Hp → Option β) (x0 : AV → Hp → Option β) (xd : Nat → St → Option β) (xq : St → Option β) (t : Tm) (h : Hp) : o_ref41_Crossed_L2 P T D N t h (fun (e : Ex) (s : St) => e.on (xn (s.1 0) (s.1 1) (s.1 7) (s.1 8) s.2) (fun i => (bif i == 0 then x0 (s.1 7) s.2 else (xd i s))) (xq s)) = f_ref41_Crossed_b2 P T D N xn x0 (t 0) (t 1) (t 7) (t 8) h := by
  have eL5 : (fun s : St => iterK (fun s k => o_ref41_Crossed_L5 P T D N s.1 s.2 k) N s (o_ref41_Crossed_aL5 P T D N (fun (e : Ex) (s : St) => e.on (xn (s.1 0) (s.1 1) (s.1 7) (s.1 8) s.2) (fun i => (bif i == 0 then x0 (s.1 7) s.2 else (xd i s))) (xq s)))) = (fun s : St => f_ref41_Crossed_L5 P T D N (fun w19_0 w19_1 w19_7 w19_8 h => f_ref41_Crossed_j4 P T D N xn x0 w19_0 w19_1 w19_7 w19_8 h) N (s.1 0) (s.1 1) (s.1 7) (s.1 8) (s.1 9) s.2) := funext fun s => f_ref41_Crossed_L5_eq P T D N (o_ref41_Crossed_aL5 P T D N (fun (e : Ex) (s : St) => e.on (xn (s.1 0) (s.1 1) (s.1 7) (s.1 8) s.2) (fun i => (bif i == 0 then x0 (s.1 7) s.2 else (xd i s))) (xq s))) (fun w19_0 w19_1 w19_7 w19_8 h => f_ref41_Crossed_j4 P T D N xn x0 w19_0 w19_1 w19_7 w19_8 h) (fun s => rfl) N s
  show o_ref41_Crossed_L2_G P T D N (fun s => iterK (fun s k => o_ref41_Crossed_L5 P T D N s.1 s.2 k) N s (o_ref41_Crossed_aL5 P T D N (fun (e : Ex) (s : St) => e.on (xn (s.1 0) (s.1 1) (s.1 7) (s.1 8) s.2) (fun i => (bif i == 0 then x0 (s.1 7) s.2 else (xd i s))) (xq s)))) t h (fun (e : Ex) (s : St) => e.on (xn (s.1 0) (s.1 1) (s.1 7) (s.1 8) s.2) (fun i => (bif i == 0 then x0 (s.1 7) s.2 else (xd i s))) (xq s)) = _
  rw [eL5]
  kernel_rfl
theorem f_ref41_Crossed_L2_eq (P : Program) (T : Tab) (D : DTab) (N : Nat) {β : Type} (A : Ex → St → Option β) (x0 : AV → Hp → Option β) (q0 : ∀ s, A (.exit 0) s = x0 (s.1 7) s.2) : ∀ (n : Nat) (s : St), iterK (fun s k => o_ref41_Crossed_L2 P T D N s.1 s.2 k) n s A = f_ref41_Crossed_L2 P T D N x0 n (s.1 0) (s.1 1) (s.1 7) (s.1 8) s.2 := by
  intro n
  induction n with
  | zero => intro s; rfl
  | succ n ih =>
    intro s
    have hk : (fun (e : Ex) (s' : St) => Ex.on e (iterK (fun s k => o_ref41_Crossed_L2 P T D N s.1 s.2 k) n s' A) (fun i => A (.exit i) s') (A .ret s')) = (fun (e : Ex) (s : St) => e.on ((f_ref41_Crossed_L2 P T D N x0 n) (s.1 0) (s.1 1) (s.1 7) (s.1 8) s.2) (fun i => (bif i == 0 then x0 (s.1 7) s.2 else (A (.exit i) s))) (A .ret s)) := by
      funext e s'
      cases e with
      | normal => exact ih s'
      | ret => exact rfl
      | exit i =>
        by_cases r0 : i = 0
        · subst r0; exact q0 s'
        simp only [Ex.on, beq_false_of_ne r0, cond_false]
    show o_ref41_Crossed_L2 P T D N s.1 s.2 (fun (e : Ex) (s' : St) => Ex.on e (iterK (fun s k => o_ref41_Crossed_L2 P T D N s.1 s.2 k) n s' A) (fun i => A (.exit i) s') (A .ret s')) = _
    rw [hk]
    exact f_ref41_Crossed_b2_eq P T D N (f_ref41_Crossed_L2 P T D N x0 n) x0 (fun i s => A (.exit i) s) (fun s => A .ret s) s.1 s.2
theorem f_ref41_Crossed_old_eq (P : Program) (T : Tab) (D : DTab) (N : Nat) {β : Type} (K : AV → Hp → Option β) (a0 : AV) (a1 : AV) (h : Hp) : o_ref41_Crossed P T D N K a0 a1 h = f_ref41_Crossed P T D N K a0 a1 h := by
  have eL2 : (fun s : St => iterK (fun s k => o_ref41_Crossed_L2 P T D N s.1 s.2 k) N s (o_ref41_Crossed_aL2 P T D N K)) = (fun s : St => f_ref41_Crossed_L2 P T D N (fun w20_7 h => f_ref41_Crossed_j1 P T D N K w20_7 h) N (s.1 0) (s.1 1) (s.1 7) (s.1 8) s.2) := funext fun s => f_ref41_Crossed_L2_eq P T D N (o_ref41_Crossed_aL2 P T D N K) (fun w20_7 h => f_ref41_Crossed_j1 P T D N K w20_7 h) (fun s => rfl) N s
  show o_ref41_Crossed_G P T D N (fun s => iterK (fun s k => o_ref41_Crossed_L2 P T D N s.1 s.2 k) N s (o_ref41_Crossed_aL2 P T D N K)) K a0 a1 h = _
  rw [eL2]
  kernel_rfl
theorem o_ref41_Crossed_run (T : Tab) (D : DTab) (N : Nat) {β : Type} (K : AV → Hp → Option β) (a0 : AV) (a1 : AV) (h : Hp) : runK Try.prog T D N [0, 1, 4, 5, 6, 7, 8, 9, 10, 11, 16, 21, 26, 41] Try.f27 K [a0, a1] h = o_ref41_Crossed Try.prog T D N K a0 a1 h := by kernel_rfl
theorem f_ref41_Crossed_run (T : Tab) (D : DTab) (N : Nat) {β : Type} (K : AV → Hp → Option β) (a0 : AV) (a1 : AV) (h : Hp) : runK Try.prog T D N [0, 1, 4, 5, 6, 7, 8, 9, 10, 11, 16, 21, 26, 41] Try.f27 K [a0, a1] h = f_ref41_Crossed Try.prog T D N K a0 a1 h := (o_ref41_Crossed_run T D N K a0 a1 h).trans (f_ref41_Crossed_old_eq Try.prog T D N K a0 a1 h)
noncomputable def o_ref33_Same_j1 (P : Program) (T : Tab) (D : DTab) (N : Nat) {β : Type} (K : AV → Hp → Option β) (t : Tm) (h : Hp) : Option β :=
K (.s (.bool true)) h
noncomputable def o_ref33_Same_L2 (P : Program) (T : Tab) (D : DTab) (N : Nat) {β : Type} (t : Tm) (h : Hp) (k : Ex → St → Option β) : Option β :=
lenK (t 0) fun x4 =>
arithK .lss (t 5) x4 fun x5 =>
condK x5 (
iaK 1 (t 0) (t 5) fun x6 =>
ldK 1 false x6 h fun x7 =>
iaK 1 (t 1) (t 5) fun x8 =>
ldK 1 false x8 h fun x9 =>
eqK P true 3 x7 x9 h fun x10 =>
condK x10 (
k .ret ((upd (upd (upd t 14 x5) 25 x10) 4 (.s (.bool false))), h)) (
arithK .add (t 5) (.s (.int .i64 1)) fun x11 =>
k .normal ((upd (upd (upd t 14 x5) 25 x10) 5 x11), h))) (
k (.exit 0) ((upd t 14 x5), h))
noncomputable def o_ref33_Same_aL2 (P : Program) (T : Tab) (D : DTab) (N : Nat) {β : Type} (K : AV → Hp → Option β) (e : Ex) (s : St) : Option β :=
  e.on ((o_ref33_Same_j1 P T D N K s.1 s.2))
  (fun i => bif i == 0 then ((o_ref33_Same_j1 P T D N K s.1 s.2)) else (none))
  (K (s.1 4) s.2)
noncomputable def o_ref33_Same_G (P : Program) (T : Tab) (D : DTab) (N : Nat) {β : Type} (cL2 : St → Option β) (K : AV → Hp → Option β) (a0 : AV) (a1 : AV) (h : Hp) :  Option β :=
lenK a0 fun x1 =>
lenK a1 fun x2 =>
eqK P true 3 x1 x2 h fun x3 =>
condK x3 (
K (.s (.bool false)) h) (
cL2 ((upd (upd (upd (tm0 [a0, a1]) 4 (.s (.bool false))) 10 x3) 5 (.s (.int .i64 0))), h))
noncomputable def o_ref33_Same (P : Program) (T : Tab) (D : DTab) (N : Nat) {β : Type} (K : AV → Hp → Option β) (a0 : AV) (a1 : AV) (h : Hp) : Option β := o_ref33_Same_G P T D N (fun s => iterK (fun s k => o_ref33_Same_L2 P T D N s.1 s.2 k) N s (o_ref33_Same_aL2 P T D N K)) K a0 a1 h
noncomputable def f_ref33_Same_j1 (P : Program) (T : Tab) (D : DTab) (N : Nat) {β : Type} (K : AV → Hp → Option β) (h : Hp) : Option β :=
K (.s (.bool true)) h
noncomputable def f_ref33_Same_b2 (P : Program) (T : Tab) (D : DTab) (N : Nat) {β : Type} (xn : AV → AV → AV → Hp → Option β) (x0 : Hp → Option β) (xr : AV → Hp → Option β) (v0 : AV) (v1 : AV) (v5 : AV) (h : Hp) : Option β :=
lenK v0 fun x4 =>
arithK .lss v5 x4 fun x5 =>
condK x5 (
iaK 1 v0 v5 fun x6 =>
ldK 1 false x6 h fun x7 =>
iaK 1 v1 v5 fun x8 =>
ldK 1 false x8 h fun x9 =>
eqK P true 3 x7 x9 h fun x10 =>
condK x10 (
xr (.s (.bool false)) h) (
arithK .add v5 (.s (.int .i64 1)) fun x11 =>
xn v0 v1 x11 h)) (
x0 h)
noncomputable def f_ref33_Same_L2 (P : Program) (T : Tab) (D : DTab) (N : Nat) {β : Type} (x0 : Hp → Option β) (xr : AV → Hp → Option β) : Nat → AV → AV → AV → Hp → Option β
  | 0 => fun _ _ _ _ => none
  | n + 1 => fun v0 v1 v5 h => f_ref33_Same_b2 P T D N (f_ref33_Same_L2 P T D N x0 xr n) x0 xr v0 v1 v5 h
noncomputable def f_ref33_Same (P : Program) (T : Tab) (D : DTab) (N : Nat) {β : Type} (K : AV → Hp → Option β) (a0 : AV) (a1 : AV) (h : Hp) : Option β :=
lenK a0 fun x1 =>
lenK a1 fun x2 =>
eqK P true 3 x1 x2 h fun x3 =>
condK x3 (
K (.s (.bool false)) h) (
f_ref33_Same_L2 P T D N (fun h => f_ref33_Same_j1 P T D N K h) (fun w13_4 h => K w13_4 h) N a0 a1 (.s (.int .i64 0)) h)
theorem f_ref33_Same_b2_eq (P : Program) (T : Tab) (D : DTab) (N : Nat) {β : Type} (xn : AV → AV → AV → Hp → Option β) (x0 : Hp → Option β) (xr : AV → Hp → Option β) (xd : Nat → St → Option β) (xq : St → Option β) (t : Tm) (h : Hp) : o_ref33_Same_L2 P T D N t h (fun (e : Ex) (s : St) => e.on (xn (s.1 0) (s.1 1) (s.1 5) s.2) (fun i => (bif i == 0 then x0 s.2 else (xd i s))) (xr (s.1 4) s.2)) = f_ref33_Same_b2 P T D N xn x0 xr (t 0) (t 1) (t 5) h := by kernel_rfl
theorem f_ref33_Same_L2_eq (P : Program) (T : Tab) (D : DTab) (N : Nat) {β : Type} (A : Ex → St → Option β) (x0 : Hp → Option β) (xr : AV → Hp → Option β) (q0 : ∀ s, A (.exit 0) s = x0 s.2) (qr : ∀ s, A .ret s = xr (s.1 4) s.2) : ∀ (n : Nat) (s : St), iterK (fun s k => o_ref33_Same_L2 P T D N s.1 s.2 k) n s A = f_ref33_Same_L2 P T D N x0 xr n (s.1 0) (s.1 1) (s.1 5) s.2 := by
  intro n
  induction n with
  | zero => intro s; rfl
  | succ n ih =>
    intro s
    have hk : (fun (e : Ex) (s' : St) => Ex.on e (iterK (fun s k => o_ref33_Same_L2 P T D N s.1 s.2 k) n s' A) (fun i => A (.exit i) s') (A .ret s')) = (fun (e : Ex) (s : St) => e.on ((f_ref33_Same_L2 P T D N x0 xr n) (s.1 0) (s.1 1) (s.1 5) s.2) (fun i => (bif i == 0 then x0 s.2 else (A (.exit i) s))) (xr (s.1 4) s.2)) := by
      funext e s'
      cases e with
      | normal => exact ih s'
      | ret => exact qr s'
      | exit i =>
        by_cases r0 : i = 0
        · subst r0; exact q0 s'
        simp only [Ex.on, beq_false_of_ne r0, cond_false]
    show o_ref33_Same_L2 P T D N s.1 s.2 (fun (e : Ex) (s' : St) => Ex.on e (iterK (fun s k => o_ref33_Same_L2 P T D N s.1 s.2 k) n s' A) (fun i => A (.exit i) s') (A .ret s')) = _
    rw [hk]
    exact f_ref33_Same_b2_eq P T D N (f_ref33_Same_L2 P T D N x0 xr n) x0 xr (fun i s => A (.exit i) s) (fun s => A .ret s) s.1 s.2
theorem f_ref33_Same_old_eq (P : Program) (T : Tab) (D : DTab) (N : Nat) {β : Type} (K : AV → Hp → Option β) (a0 : AV) (a1 : AV) (h : Hp) : o_ref33_Same P T D N K a0 a1 h = f_ref33_Same P T D N K a0 a1 h := by
  have eL2 : (fun s : St => iterK (fun s k => o_ref33_Same_L2 P T D N s.1 s.2 k) N s (o_ref33_Same_aL2 P T D N K)) = (fun s : St => f_ref33_Same_L2 P T D N (fun h => f_ref33_Same_j1 P T D N K h) (fun w13_4 h => K w13_4 h) N (s.1 0) (s.1 1) (s.1 5) s.2) := funext fun s => f_ref33_Same_L2_eq P T D N (o_ref33_Same_aL2 P T D N K) (fun h => f_ref33_Same_j1 P T D N K h) (fun w13_4 h => K w13_4 h) (fun s => rfl) (fun s => rfl) N s
  show o_ref33_Same_G P T D N (fun s => iterK (fun s k => o_ref33_Same_L2 P T D N s.1 s.2 k) N s (o_ref33_Same_aL2 P T D N K)) K a0 a1 h = _
  rw [eL2]
  kernel_rfl
theorem o_ref33_Same_run (T : Tab) (D : DTab) (N : Nat) {β : Type} (K : AV → Hp → Option β) (a0 : AV) (a1 : AV) (h : Hp) : runK Try.prog T D N [0, 1, 4, 5, 10, 14, 25] Try.f28 K [a0, a1] h = o_ref33_Same Try.prog T D N K a0 a1 h := by kernel_rfl
theorem f_ref33_Same_run (T : Tab) (D : DTab) (N : Nat) {β : Type} (K : AV → Hp → Option β) (a0 : AV) (a1 : AV) (h : Hp) : runK Try.prog T D N [0, 1, 4, 5, 10, 14, 25] Try.f28 K [a0, a1] h = f_ref33_Same Try.prog T D N K a0 a1 h := (o_ref33_Same_run T D N K a0 a1 h).trans (f_ref33_Same_old_eq Try.prog T D N K a0 a1 h)
noncomputable def f_slices_Contains_Message (P : Program) (T : Tab) (D : DTab) (N : Nat) {β : Type} (K : AV → Hp → Option β) (a0 : AV) (a1 : AV) (h : Hp) : Option β :=
effK (boxE 7 a1 (List.length h)) h fun x1 h2 =>
ldK 7 true x1 h2 fun x3 =>
callK (T 60) [a0, x3] h2 fun x4 h5 =>
arithK .geq x4 (.s (.int .i64 0)) fun x6 =>
K x6 h5
theorem f_slices_Contains_Message_run (T : Tab) (D : DTab) (N : Nat) {β : Type} (K : AV → Hp → Option β) (a0 : AV) (a1 : AV) (h : Hp) : runK Try.prog T D N [0, 1, 3, 4] Try.f37 K [a0, a1] h = f_slices_Contains_Message Try.prog T D N K a0 a1 h := by kernel_rfl
noncomputable def f_document_Normal (P : Program) (T : Tab) (D : DTab) (N : Nat) {β : Type} (K : AV → Hp → Option β) (a0 : AV) (h : Hp) : Option β :=
lenK a0 fun x1 =>
arithK .gtr x1 (.s (.int .i64 64)) fun x2 =>
condK x2 (
K (.tup [(.s (.slice none 0 0)), (.s (.int .i64 8))]) h) (
callK (T 40) [a0, (.fn 61 [])] h fun x3 h4 =>
condK x3 (
K (.tup [(.s (.slice none 0 0)), (.s (.int .i64 1))]) h4) (
callK (T 39) [a0] h4 fun x5 h6 =>
callK (T 62) [x5, (.fn 63 [])] h6 fun x7 h8 =>
callK (T 64) [x5] h8 fun x9 h10 =>
K (.tup [x9, (.s (.int .i64 0))]) h10))
theorem f_document_Normal_run (T : Tab) (D : DTab) (N : Nat) {β : Type} (K : AV → Hp → Option β) (a0 : AV) (h : Hp) : runK Try.prog T D N [0, 2, 3, 4, 7, 9] Try.f38 K [a0] h = f_document_Normal Try.prog T D N K a0 h := by kernel_rfl
noncomputable def f_slices_Clone_Message (P : Program) (T : Tab) (D : DTab) (N : Nat) {β : Type} (K : AV → Hp → Option β) (a0 : AV) (h : Hp) : Option β :=
eqK P false 37 a0 (.s (.slice none 0 0)) h fun x1 =>
condK x1 (
K (.s (.slice none 0 0)) h) (
effK (bsE 7 [.s (.int .i64 0), .s (.int .i64 0), .s (.int .i64 0), .s (.int .i64 0), .s (.int .i64 0), .s (.int .i64 0), .s (.int .i64 0)] 0 [] (List.length h)) h fun x2 h3 =>
effK (appE 7 56 x2 a0 h3 (List.length h3)) h3 fun x4 h5 =>
K x4 h5)
theorem f_slices_Clone_Message_run (T : Tab) (D : DTab) (N : Nat) {β : Type} (K : AV → Hp → Option β) (a0 : AV) (h : Hp) : runK Try.prog T D N [0, 2, 4] Try.f39 K [a0] h = f_slices_Clone_Message Try.prog T D N K a0 h := by kernel_rfl
noncomputable def f_slices_ContainsFunc_Message (P : Program) (T : Tab) (D : DTab) (N : Nat) {β : Type} (K : AV → Hp → Option β) (a0 : AV) (a1 : AV) (h : Hp) : Option β :=
callK (T 65) [a0, a1] h fun x1 h2 =>
arithK .geq x1 (.s (.int .i64 0)) fun x3 =>
K x3 h2
theorem f_slices_ContainsFunc_Message_run (T : Tab) (D : DTab) (N : Nat) {β : Type} (K : AV → Hp → Option β) (a0 : AV) (a1 : AV) (h : Hp) : runK Try.prog T D N [0, 1, 4] Try.f40 K [a0, a1] h = f_slices_ContainsFunc_Message Try.prog T D N K a0 a1 h := by kernel_rfl
noncomputable def o_law41_example_j1 (P : Program) (T : Tab) (D : DTab) (N : Nat) {β : Type} (K : AV → Hp → Option β) (t : Tm) (h : Hp) : Option β :=
K (t 1) h
noncomputable def o_law41_example_L2 (P : Program) (T : Tab) (D : DTab) (N : Nat) {β : Type} (t : Tm) (h : Hp) (k : Ex → St → Option β) : Option β :=
arithK .lss (t 3) (.s (.int .i64 3)) fun x1 =>
condK x1 (
arithK .add (t 3) (.s (.int .i64 1)) fun x2 =>
arithK .add (t 3) (.s (.int .i64 1)) fun x3 =>
buildK [.s (.int .i64 0), .s (.int .i64 0), .s (.int .i64 0), .s (.int .i64 0), .s (.int .i64 0), .s (.int .i64 0), .s (.int .i64 0)] [(some (0, 1), x3), (some (1, 1), (.s (.int .i64 1))), (some (4, 1), (.s (.int .i64 1))), (some (5, 1), (.s (.int .i64 2))), (some (6, 1), (.s (.int .i64 10)))] fun x4 =>
buildK [.s (.int .i64 0), .s (.int .i64 0), .s (.int .i64 0), .s (.int .i64 0), .s (.int .i64 0), .s (.int .i64 0), .s (.int .i64 0), .s (.int .i64 0), .s (.int .i64 0), .s (.int .i64 0)] [(some (0, 1), (.s (.int .i64 1))), (some (1, 1), (.s (.int .i64 2))), (some (2, 1), x2), (some (3, 7), x4)] fun x5 =>
effK (bsE 10 [.s (.int .i64 0), .s (.int .i64 0), .s (.int .i64 0), .s (.int .i64 0), .s (.int .i64 0), .s (.int .i64 0), .s (.int .i64 0), .s (.int .i64 0), .s (.int .i64 0), .s (.int .i64 0)] 1 [(0, x5)] (List.length h)) h fun x6 h7 =>
effK (appE 10 80 (t 1) x6 h7 (List.length h7)) h7 fun x8 h9 =>
arithK .add (t 3) (.s (.int .i64 1)) fun x10 =>
k .normal ((upd (upd (upd (upd t 4 x1) 2 (t 3)) 1 x8) 3 x10), h9)) (
k (.exit 0) ((upd t 4 x1), h))
noncomputable def o_law41_example_aL2 (P : Program) (T : Tab) (D : DTab) (N : Nat) {β : Type} (K : AV → Hp → Option β) (e : Ex) (s : St) : Option β :=
  e.on ((o_law41_example_j1 P T D N K s.1 s.2))
  (fun i => bif i == 0 then ((o_law41_example_j1 P T D N K s.1 s.2)) else (none))
  (K (s.1 0) s.2)
noncomputable def o_law41_example_G (P : Program) (T : Tab) (D : DTab) (N : Nat) {β : Type} (cL2 : St → Option β) (K : AV → Hp → Option β) (h : Hp) :  Option β :=
cL2 ((upd (upd (upd (tm0 []) 0 (.s (.slice none 0 0))) 1 (.s (.slice none 0 0))) 3 (.s (.int .i64 0))), h)
noncomputable def o_law41_example (P : Program) (T : Tab) (D : DTab) (N : Nat) {β : Type} (K : AV → Hp → Option β) (h : Hp) : Option β := o_law41_example_G P T D N (fun s => iterK (fun s k => o_law41_example_L2 P T D N s.1 s.2 k) N s (o_law41_example_aL2 P T D N K)) K h
noncomputable def f_law41_example_j1 (P : Program) (T : Tab) (D : DTab) (N : Nat) {β : Type} (K : AV → Hp → Option β) (v1 : AV) (h : Hp) : Option β :=
K v1 h
noncomputable def f_law41_example_b2 (P : Program) (T : Tab) (D : DTab) (N : Nat) {β : Type} (xn : AV → AV → Hp → Option β) (x0 : AV → Hp → Option β) (v1 : AV) (v3 : AV) (h : Hp) : Option β :=
arithK .lss v3 (.s (.int .i64 3)) fun x1 =>
condK x1 (
arithK .add v3 (.s (.int .i64 1)) fun x2 =>
arithK .add v3 (.s (.int .i64 1)) fun x3 =>
buildK [.s (.int .i64 0), .s (.int .i64 0), .s (.int .i64 0), .s (.int .i64 0), .s (.int .i64 0), .s (.int .i64 0), .s (.int .i64 0)] [(some (0, 1), x3), (some (1, 1), (.s (.int .i64 1))), (some (4, 1), (.s (.int .i64 1))), (some (5, 1), (.s (.int .i64 2))), (some (6, 1), (.s (.int .i64 10)))] fun x4 =>
buildK [.s (.int .i64 0), .s (.int .i64 0), .s (.int .i64 0), .s (.int .i64 0), .s (.int .i64 0), .s (.int .i64 0), .s (.int .i64 0), .s (.int .i64 0), .s (.int .i64 0), .s (.int .i64 0)] [(some (0, 1), (.s (.int .i64 1))), (some (1, 1), (.s (.int .i64 2))), (some (2, 1), x2), (some (3, 7), x4)] fun x5 =>
effK (bsE 10 [.s (.int .i64 0), .s (.int .i64 0), .s (.int .i64 0), .s (.int .i64 0), .s (.int .i64 0), .s (.int .i64 0), .s (.int .i64 0), .s (.int .i64 0), .s (.int .i64 0), .s (.int .i64 0)] 1 [(0, x5)] (List.length h)) h fun x6 h7 =>
effK (appE 10 80 v1 x6 h7 (List.length h7)) h7 fun x8 h9 =>
arithK .add v3 (.s (.int .i64 1)) fun x10 =>
xn x8 x10 h9) (
x0 v1 h)
noncomputable def f_law41_example_L2 (P : Program) (T : Tab) (D : DTab) (N : Nat) {β : Type} (x0 : AV → Hp → Option β) : Nat → AV → AV → Hp → Option β
  | 0 => fun _ _ _ => none
  | n + 1 => fun v1 v3 h => f_law41_example_b2 P T D N (f_law41_example_L2 P T D N x0 n) x0 v1 v3 h
noncomputable def f_law41_example (P : Program) (T : Tab) (D : DTab) (N : Nat) {β : Type} (K : AV → Hp → Option β) (h : Hp) : Option β :=
f_law41_example_L2 P T D N (fun w11_1 h => f_law41_example_j1 P T D N K w11_1 h) N (.s (.slice none 0 0)) (.s (.int .i64 0)) h
theorem f_law41_example_b2_eq (P : Program) (T : Tab) (D : DTab) (N : Nat) {β : Type} (xn : AV → AV → Hp → Option β) (x0 : AV → Hp → Option β) (xd : Nat → St → Option β) (xq : St → Option β) (t : Tm) (h : Hp) : o_law41_example_L2 P T D N t h (fun (e : Ex) (s : St) => e.on (xn (s.1 1) (s.1 3) s.2) (fun i => (bif i == 0 then x0 (s.1 1) s.2 else (xd i s))) (xq s)) = f_law41_example_b2 P T D N xn x0 (t 1) (t 3) h := by kernel_rfl
theorem f_law41_example_L2_eq (P : Program) (T : Tab) (D : DTab) (N : Nat) {β : Type} (A : Ex → St → Option β) (x0 : AV → Hp → Option β) (q0 : ∀ s, A (.exit 0) s = x0 (s.1 1) s.2) : ∀ (n : Nat) (s : St), iterK (fun s k => o_law41_example_L2 P T D N s.1 s.2 k) n s A = f_law41_example_L2 P T D N x0 n (s.1 1) (s.1 3) s.2 := by
  intro n
  induction n with
  | zero => intro s; rfl
  | succ n ih =>
    intro s
    have hk : (fun (e : Ex) (s' : St) => Ex.on e (iterK (fun s k => o_law41_example_L2 P T D N s.1 s.2 k) n s' A) (fun i => A (.exit i) s') (A .ret s')) = (fun (e : Ex) (s : St) => e.on ((f_law41_example_L2 P T D N x0 n) (s.1 1) (s.1 3) s.2) (fun i => (bif i == 0 then x0 (s.1 1) s.2 else (A (.exit i) s))) (A .ret s)) := by
      funext e s'
      cases e with
      | normal => exact ih s'
      | ret => exact rfl
      | exit i =>
        by_cases r0 : i = 0
        · subst r0; exact q0 s'
        simp only [Ex.on, beq_false_of_ne r0, cond_false]
    show o_law41_example_L2 P T D N s.1 s.2 (fun (e : Ex) (s' : St) => Ex.on e (iterK (fun s k => o_law41_example_L2 P T D N s.1 s.2 k) n s' A) (fun i => A (.exit i) s') (A .ret s')) = _
    rw [hk]
    exact f_law41_example_b2_eq P T D N (f_law41_example_L2 P T D N x0 n) x0 (fun i s => A (.exit i) s) (fun s => A .ret s) s.1 s.2
theorem f_law41_example_old_eq (P : Program) (T : Tab) (D : DTab) (N : Nat) {β : Type} (K : AV → Hp → Option β) (h : Hp) : o_law41_example P T D N K h = f_law41_example P T D N K h := by
  have eL2 : (fun s : St => iterK (fun s k => o_law41_example_L2 P T D N s.1 s.2 k) N s (o_law41_example_aL2 P T D N K)) = (fun s : St => f_law41_example_L2 P T D N (fun w11_1 h => f_law41_example_j1 P T D N K w11_1 h) N (s.1 1) (s.1 3) s.2) := funext fun s => f_law41_example_L2_eq P T D N (o_law41_example_aL2 P T D N K) (fun w11_1 h => f_law41_example_j1 P T D N K w11_1 h) (fun s => rfl) N s
  show o_law41_example_G P T D N (fun s => iterK (fun s k => o_law41_example_L2 P T D N s.1 s.2 k) N s (o_law41_example_aL2 P T D N K)) K h = _
  rw [eL2]
  kernel_rfl
theorem o_law41_example_run (T : Tab) (D : DTab) (N : Nat) {β : Type} (K : AV → Hp → Option β) (h : Hp) : runK Try.prog T D N [0, 1, 2, 3, 4] Try.f45 K [] h = o_law41_example Try.prog T D N K  h := by kernel_rfl
theorem f_law41_example_run (T : Tab) (D : DTab) (N : Nat) {β : Type} (K : AV → Hp → Option β) (h : Hp) : runK Try.prog T D N [0, 1, 2, 3, 4] Try.f45 K [] h = f_law41_example Try.prog T D N K  h := (o_law41_example_run T D N K  h).trans (f_law41_example_old_eq Try.prog T D N K  h)
noncomputable def o_slices_Equal_int_j1 (P : Program) (T : Tab) (D : DTab) (N : Nat) {β : Type} (K : AV → Hp → Option β) (t : Tm) (h : Hp) : Option β :=
K (.s (.bool true)) h
noncomputable def o_slices_Equal_int_L2 (P : Program) (T : Tab) (D : DTab) (N : Nat) {β : Type} (t : Tm) (h : Hp) (k : Ex → St → Option β) : Option β :=
arithK .lss (t 13) (t 12) fun x5 =>
condK x5 (
iaK 1 (t 0) (t 13) fun x6 =>
ldK 1 false x6 h fun x7 =>
iaK 1 (t 1) (t 13) fun x8 =>
ldK 1 false x8 h fun x9 =>
eqK P true 3 x7 x9 h fun x10 =>
condK x10 (
k .ret ((upd (upd (upd (upd t 14 x5) 5 (t 13)) 24 x10) 4 (.s (.bool false))), h)) (
arithK .add (t 13) (.s (.int .i64 1)) fun x11 =>
k .normal ((upd (upd (upd (upd t 14 x5) 5 (t 13)) 24 x10) 13 x11), h))) (
k (.exit 0) ((upd t 14 x5), h))
noncomputable def o_slices_Equal_int_aL2 (P : Program) (T : Tab) (D : DTab) (N : Nat) {β : Type} (K : AV → Hp → Option β) (e : Ex) (s : St) : Option β :=
  e.on ((o_slices_Equal_int_j1 P T D N K s.1 s.2))
  (fun i => bif i == 0 then ((o_slices_Equal_int_j1 P T D N K s.1 s.2)) else (none))
  (K (s.1 4) s.2)
noncomputable def o_slices_Equal_int_G (P : Program) (T : Tab) (D : DTab) (N : Nat) {β : Type} (cL2 : St → Option β) (K : AV → Hp → Option β) (a0 : AV) (a1 : AV) (h : Hp) :  Option β :=
lenK a0 fun x1 =>
lenK a1 fun x2 =>
eqK P true 3 x1 x2 h fun x3 =>
condK x3 (
K (.s (.bool false)) h) (
lenK a0 fun x4 =>
cL2 ((upd (upd (upd (upd (tm0 [a0, a1]) 4 (.s (.bool false))) 10 x3) 12 x4) 13 (.s (.int .i64 0))), h))
noncomputable def o_slices_Equal_int (P : Program) (T : Tab) (D : DTab) (N : Nat) {β : Type} (K : AV → Hp → Option β) (a0 : AV) (a1 : AV) (h : Hp) : Option β := o_slices_Equal_int_G P T D N (fun s => iterK (fun s k => o_slices_Equal_int_L2 P T D N s.1 s.2 k) N s (o_slices_Equal_int_aL2 P T D N K)) K a0 a1 h
noncomputable def f_slices_Equal_int_j1 (P : Program) (T : Tab) (D : DTab) (N : Nat) {β : Type} (K : AV → Hp → Option β) (h : Hp) : Option β :=
K (.s (.bool true)) h
noncomputable def f_slices_Equal_int_b2 (P : Program) (T : Tab) (D : DTab) (N : Nat) {β : Type} (xn : AV → AV → AV → AV → Hp → Option β) (x0 : Hp → Option β) (xr : AV → Hp → Option β) (v0 : AV) (v1 : AV) (v12 : AV) (v13 : AV) (h : Hp) : Option β :=
arithK .lss v13 v12 fun x5 =>
condK x5 (
iaK 1 v0 v13 fun x6 =>
ldK 1 false x6 h fun x7 =>
iaK 1 v1 v13 fun x8 =>
ldK 1 false x8 h fun x9 =>
eqK P true 3 x7 x9 h fun x10 =>
condK x10 (
xr (.s (.bool false)) h) (
arithK .add v13 (.s (.int .i64 1)) fun x11 =>
xn v0 v1 v12 x11 h)) (
x0 h)
noncomputable def f_slices_Equal_int_L2 (P : Program) (T : Tab) (D : DTab) (N : Nat) {β : Type} (x0 : Hp → Option β) (xr : AV → Hp → Option β) : Nat → AV → AV → AV → AV → Hp → Option β
  | 0 => fun _ _ _ _ _ => none
  | n + 1 => fun v0 v1 v12 v13 h => f_slices_Equal_int_b2 P T D N (f_slices_Equal_int_L2 P T D N x0 xr n) x0 xr v0 v1 v12 v13 h
noncomputable def f_slices_Equal_int (P : Program) (T : Tab) (D : DTab) (N : Nat) {β : Type} (K : AV → Hp → Option β) (a0 : AV) (a1 : AV) (h : Hp) : Option β :=
lenK a0 fun x1 =>
lenK a1 fun x2 =>
eqK P true 3 x1 x2 h fun x3 =>
condK x3 (
K (.s (.bool false)) h) (
lenK a0 fun x4 =>
f_slices_Equal_int_L2 P T D N (fun h => f_slices_Equal_int_j1 P T D N K h) (fun w13_4 h => K w13_4 h) N a0 a1 x4 (.s (.int .i64 0)) h)
theorem f_slices_Equal_int_b2_eq (P : Program) (T : Tab) (D : DTab) (N : Nat) {β : Type} (xn : AV → AV → AV → AV → Hp → Option β) (x0 : Hp → Option β) (xr : AV → Hp → Option β) (xd : Nat → St → Option β) (xq : St → Option β) (t : Tm) (h : Hp) : o_slices_Equal_int_L2 P T D N t h (fun (e : Ex) (s : St) => e.on (xn (s.1 0) (s.1 1) (s.1 12) (s.1 13) s.2) (fun i => (bif i == 0 then x0 s.2 else (xd i s))) (xr (s.1 4) s.2)) = f_slices_Equal_int_b2 P T D N xn x0 xr (t 0) (t 1) (t 12) (t 13) h := by kernel_rfl
theorem f_slices_Equal_int_L2_eq (P : Program) (T : Tab) (D : DTab) (N : Nat) {β : Type} (A : Ex → St → Option β) (x0 : Hp → Option β) (xr : AV → Hp → Option β) (q0 : ∀ s, A (.exit 0) s = x0 s.2) (qr : ∀ s, A .ret s = xr (s.1 4) s.2) : ∀ (n : Nat) (s : St), iterK (fun s k => o_slices_Equal_int_L2 P T D N s.1 s.2 k) n s A = f_slices_Equal_int_L2 P T D N x0 xr n (s.1 0) (s.1 1) (s.1 12) (s.1 13) s.2 := by
  intro n
  induction n with
  | zero => intro s; rfl
  | succ n ih =>
    intro s
    have hk : (fun (e : Ex) (s' : St) => Ex.on e (iterK (fun s k => o_slices_Equal_int_L2 P T D N s.1 s.2 k) n s' A) (fun i => A (.exit i) s') (A .ret s')) = (fun (e : Ex) (s : St) => e.on ((f_slices_Equal_int_L2 P T D N x0 xr n) (s.1 0) (s.1 1) (s.1 12) (s.1 13) s.2) (fun i => (bif i == 0 then x0 s.2 else (A (.exit i) s))) (xr (s.1 4) s.2)) := by
      funext e s'
      cases e with
      | normal => exact ih s'
      | ret => exact qr s'
      | exit i =>
        by_cases r0 : i = 0
        · subst r0; exact q0 s'
        simp only [Ex.on, beq_false_of_ne r0, cond_false]
    show o_slices_Equal_int_L2 P T D N s.1 s.2 (fun (e : Ex) (s' : St) => Ex.on e (iterK (fun s k => o_slices_Equal_int_L2 P T D N s.1 s.2 k) n s' A) (fun i => A (.exit i) s') (A .ret s')) = _
    rw [hk]
    exact f_slices_Equal_int_b2_eq P T D N (f_slices_Equal_int_L2 P T D N x0 xr n) x0 xr (fun i s => A (.exit i) s) (fun s => A .ret s) s.1 s.2
theorem f_slices_Equal_int_old_eq (P : Program) (T : Tab) (D : DTab) (N : Nat) {β : Type} (K : AV → Hp → Option β) (a0 : AV) (a1 : AV) (h : Hp) : o_slices_Equal_int P T D N K a0 a1 h = f_slices_Equal_int P T D N K a0 a1 h := by
  have eL2 : (fun s : St => iterK (fun s k => o_slices_Equal_int_L2 P T D N s.1 s.2 k) N s (o_slices_Equal_int_aL2 P T D N K)) = (fun s : St => f_slices_Equal_int_L2 P T D N (fun h => f_slices_Equal_int_j1 P T D N K h) (fun w13_4 h => K w13_4 h) N (s.1 0) (s.1 1) (s.1 12) (s.1 13) s.2) := funext fun s => f_slices_Equal_int_L2_eq P T D N (o_slices_Equal_int_aL2 P T D N K) (fun h => f_slices_Equal_int_j1 P T D N K h) (fun w13_4 h => K w13_4 h) (fun s => rfl) (fun s => rfl) N s
  show o_slices_Equal_int_G P T D N (fun s => iterK (fun s k => o_slices_Equal_int_L2 P T D N s.1 s.2 k) N s (o_slices_Equal_int_aL2 P T D N K)) K a0 a1 h = _
  rw [eL2]
  kernel_rfl
theorem o_slices_Equal_int_run (T : Tab) (D : DTab) (N : Nat) {β : Type} (K : AV → Hp → Option β) (a0 : AV) (a1 : AV) (h : Hp) : runK Try.prog T D N [0, 1, 4, 5, 10, 12, 13, 14, 24] Try.f46 K [a0, a1] h = o_slices_Equal_int Try.prog T D N K a0 a1 h := by kernel_rfl
theorem f_slices_Equal_int_run (T : Tab) (D : DTab) (N : Nat) {β : Type} (K : AV → Hp → Option β) (a0 : AV) (a1 : AV) (h : Hp) : runK Try.prog T D N [0, 1, 4, 5, 10, 12, 13, 14, 24] Try.f46 K [a0, a1] h = f_slices_Equal_int Try.prog T D N K a0 a1 h := (o_slices_Equal_int_run T D N K a0 a1 h).trans (f_slices_Equal_int_old_eq Try.prog T D N K a0 a1 h)
noncomputable def f_document_Check_j1 (P : Program) (T : Tab) (D : DTab) (N : Nat) {β : Type} (K : AV → Hp → Option β) (v1 : AV) (v3 : AV) (v4 : AV) (h : Hp) : Option β :=
notK v4 fun x47 =>
grpK false x47 h (fun k48 =>
ldK 7 true v1 h fun x49 =>
ldK 7 true v3 h fun x50 =>
eqK P true 31 x49 x50 h fun x51 =>
k48 x51 h) fun x52 h53 =>
condK x52 (
K (.s (.int .i64 1)) h53) (
K (.s (.int .i64 0)) h53)
noncomputable def f_document_Check_j2 (P : Program) (T : Tab) (D : DTab) (N : Nat) {β : Type} (K : AV → Hp → Option β) (v1 : AV) (v3 : AV) (v4 : AV) (h : Hp) : Option β :=
f_document_Check_j1 P T D N K v1 v3 v4 h
noncomputable def f_document_Check (P : Program) (T : Tab) (D : DTab) (N : Nat) {β : Type} (K : AV → Hp → Option β) (a0 : AV) (h : Hp) : Option β :=
effK (boxE 7 a0 (List.length h)) h fun x1 h2 =>
faK 0 x1 fun x3 =>
ldK 1 false x3 h2 fun x4 =>
arithK .lss x4 (.s (.int .i64 1)) fun x5 =>
grpK false x5 h2 (fun k6 =>
faK 0 x1 fun x7 =>
ldK 1 false x7 h2 fun x8 =>
arithK .gtr x8 (.s (.int .i64 1073741824)) fun x9 =>
k6 x9 h2) fun x10 h11 =>
grpK false x10 h11 (fun k12 =>
faK 1 x1 fun x13 =>
ldK 1 false x13 h11 fun x14 =>
arithK .lss x14 (.s (.int .i64 1)) fun x15 =>
k12 x15 h11) fun x16 h17 =>
grpK false x16 h17 (fun k18 =>
faK 1 x1 fun x19 =>
ldK 1 false x19 h17 fun x20 =>
arithK .gtr x20 (.s (.int .i64 5)) fun x21 =>
k18 x21 h17) fun x22 h23 =>
grpK false x22 h23 (fun k24 =>
faK 3 x1 fun x25 =>
ldK 1 false x25 h23 fun x26 =>
arithK .lss x26 (.s (.int .i64 0)) fun x27 =>
k24 x27 h23) fun x28 h29 =>
grpK false x28 h29 (fun k30 =>
faK 3 x1 fun x31 =>
ldK 1 false x31 h29 fun x32 =>
arithK .gtr x32 (.s (.int .i64 100000)) fun x33 =>
k30 x33 h29) fun x34 h35 =>
condK x34 (
K (.s (.int .i64 2)) h35) (
faK 0 x1 fun x36 =>
ldK 1 false x36 h35 fun x37 =>
faK 1 x1 fun x38 =>
ldK 1 false x38 h35 fun x39 =>
faK 3 x1 fun x40 =>
ldK 1 false x40 h35 fun x41 =>
buildK [.s (.int .i64 0), .s (.int .i64 0), .s (.int .i64 0), .s (.int .i64 0), .s (.int .i64 0), .s (.int .i64 0), .s (.int .i64 0)] [(some (0, 1), x37), (some (1, 1), x39), (some (3, 1), x41)] fun x42 =>
effK (boxE 7 (.agg [.s (.int .i64 0), .s (.int .i64 0), .s (.int .i64 0), .s (.int .i64 0), .s (.int .i64 0), .s (.int .i64 0), .s (.int .i64 0)]) (List.length h35)) h35 fun x43 h44 =>
effK (stE 7 x43 x42 h44) h44 fun x45 h46 =>
faK 1 x1 fun x54 =>
ldK 1 false x54 h46 fun x55 =>
eqK P false 3 x55 (.s (.int .i64 1)) h46 fun x56 =>
condK x56 (
faK 4 x1 fun x57 =>
ldK 1 false x57 h46 fun x58 =>
faK 5 x1 fun x59 =>
ldK 1 false x59 h46 fun x60 =>
faK 6 x1 fun x61 =>
ldK 1 false x61 h46 fun x62 =>
faK 4 x43 fun x63 =>
effD (stE 1 x63 x58 h46) h46 fun x64 h65 e66 =>
faK 5 x43 fun x67 =>
effD (stE 1 x67 x60 h65) h65 fun x68 h69 e70 =>
faK 6 x43 fun x71 =>
effD (stE 1 x71 x62 h69) h69 fun x72 h73 e74 =>
bif disjAll [(3, 7), (5, 7), (5, 9)] [([], []), ((idsOf x57), []), ([], []), ((idsOf x59), []), ([], []), ((idsOf x61), []), ([], []), e66, ([], []), e70, ([], []), e74] then (
faK 4 x1 fun x75 =>
ldK 1 false x75 h73 fun x76 =>
callK (T 67) [x76] h73 fun x77 h78 =>
grpK true x77 h78 (fun k79 =>
faK 5 x1 fun x80 =>
ldK 1 false x80 h78 fun x81 =>
callK (T 67) [x81] h78 fun x82 h83 =>
k79 x82 h83) fun x84 h85 =>
grpK true x84 h85 (fun k86 =>
faK 4 x1 fun x87 =>
ldK 1 false x87 h85 fun x88 =>
faK 5 x1 fun x89 =>
ldK 1 false x89 h85 fun x90 =>
eqK P true 3 x88 x90 h85 fun x91 =>
k86 x91 h85) fun x92 h93 =>
grpK true x92 h93 (fun k94 =>
faK 6 x1 fun x95 =>
ldK 1 false x95 h93 fun x96 =>
arithK .geq x96 (.s (.int .i64 1)) fun x97 =>
k94 x97 h93) fun x98 h99 =>
grpK true x98 h99 (fun k100 =>
faK 6 x1 fun x101 =>
ldK 1 false x101 h99 fun x102 =>
arithK .leq x102 (.s (.int .i64 10737418240000)) fun x103 =>
k100 x103 h99) fun x104 h105 =>
f_document_Check_j2 P T D N K x1 x43 x104 h105) else none) (
eqK P false 3 x55 (.s (.int .i64 2)) h46 fun x106 =>
condK x106 (
faK 2 x1 fun x107 =>
ldK 1 false x107 h46 fun x108 =>
faK 5 x1 fun x109 =>
ldK 1 false x109 h46 fun x110 =>
faK 2 x43 fun x111 =>
effD (stE 1 x111 x108 h46) h46 fun x112 h113 e114 =>
faK 5 x43 fun x115 =>
effD (stE 1 x115 x110 h113) h113 fun x116 h117 e118 =>
bif disjAll [(3, 5)] [([], []), ((idsOf x107), []), ([], []), ((idsOf x109), []), ([], []), e114, ([], []), e118] then (
faK 2 x1 fun x119 =>
ldK 1 false x119 h117 fun x120 =>
arithK .geq x120 (.s (.int .i64 1)) fun x121 =>
grpK true x121 h117 (fun k122 =>
faK 2 x1 fun x123 =>
ldK 1 false x123 h117 fun x124 =>
arithK .leq x124 (.s (.int .i64 64)) fun x125 =>
k122 x125 h117) fun x126 h127 =>
grpK true x126 h127 (fun k128 =>
faK 5 x1 fun x129 =>
ldK 1 false x129 h127 fun x130 =>
callK (T 67) [x130] h127 fun x131 h132 =>
k128 x131 h132) fun x133 h134 =>
f_document_Check_j2 P T D N K x1 x43 x133 h134) else none) (
eqK P false 3 x55 (.s (.int .i64 3)) h46 fun x135 =>
condK x135 (
faK 6 x1 fun x136 =>
ldK 1 false x136 h46 fun x137 =>
faK 6 x43 fun x138 =>
effK (stE 1 x138 x137 h46) h46 fun x139 h140 =>
faK 6 x1 fun x141 =>
ldK 1 false x141 h140 fun x142 =>
arithK .geq x142 (.s (.int .i64 0)) fun x143 =>
grpK true x143 h140 (fun k144 =>
faK 6 x1 fun x145 =>
ldK 1 false x145 h140 fun x146 =>
arithK .leq x146 (.s (.int .i64 10737418240000)) fun x147 =>
k144 x147 h140) fun x148 h149 =>
f_document_Check_j2 P T D N K x1 x43 x148 h149) (
f_document_Check_j2 P T D N K x1 x43 (.s (.bool true)) h46))))
theorem f_document_Check_run (T : Tab) (D : DTab) (N : Nat) {β : Type} (K : AV → Hp → Option β) (a0 : AV) (h : Hp) : runK Try.prog T D N [0, 1, 2, 3, 4, 32, 41, 42, 78, 99, 118] Try.f47 K [a0] h = f_document_Check Try.prog T D N K a0 h := by kernel_rfl
noncomputable def f_ref41_Form (P : Program) (T : Tab) (D : DTab) (N : Nat) {β : Type} (K : AV → Hp → Option β) (a0 : AV) (h : Hp) : Option β :=
effK (boxE 10 a0 (List.length h)) h fun x1 h2 =>
faK 0 x1 fun x3 =>
ldK 1 false x3 h2 fun x4 =>
callK (T 51) [x4] h2 fun x5 h6 =>
notK x5 fun x7 =>
grpK false x7 h6 (fun k8 =>
faK 1 x1 fun x9 =>
ldK 1 false x9 h6 fun x10 =>
callK (T 51) [x10] h6 fun x11 h12 =>
notK x11 fun x13 =>
k8 x13 h12) fun x14 h15 =>
grpK false x14 h15 (fun k16 =>
faK 2 x1 fun x17 =>
ldK 1 false x17 h15 fun x18 =>
arithK .lss x18 (.s (.int .i64 1)) fun x19 =>
k16 x19 h15) fun x20 h21 =>
grpK false x20 h21 (fun k22 =>
faK 2 x1 fun x23 =>
ldK 1 false x23 h21 fun x24 =>
arithK .gtr x24 (.s (.int .i64 1073741824)) fun x25 =>
k22 x25 h21) fun x26 h27 =>
condK x26 (
K (.s (.int .i64 2)) h27) (
faK 0 x1 fun x28 =>
ldK 1 false x28 h27 fun x29 =>
faK 1 x1 fun x30 =>
ldK 1 false x30 h27 fun x31 =>
eqK P false 3 x29 x31 h27 fun x32 =>
condK x32 (
K (.s (.int .i64 10)) h27) (
faK 3 x1 fun x33 =>
ldK 7 true x33 h27 fun x34 =>
callK (T 68) [x34] h27 fun x35 h36 =>
eqK P true 26 x35 (.s (.int .i64 0)) h36 fun x37 =>
condK x37 (
K (.s (.int .i64 1)) h36) (
K (.s (.int .i64 0)) h36)))
theorem f_ref41_Form_run (T : Tab) (D : DTab) (N : Nat) {β : Type} (K : AV → Hp → Option β) (a0 : AV) (h : Hp) : runK Try.prog T D N [0, 1, 2, 22, 27, 31] Try.f48 K [a0] h = f_ref41_Form Try.prog T D N K a0 h := by kernel_rfl
noncomputable def lpp_network_to_0 : Array Tmp := (rangeOf Try.f49 0).1
noncomputable def lpa_network_to_0 : Code := (rangeOf Try.f49 0).2.1
noncomputable def lpb_network_to_0 : Code := (rangeOf Try.f49 0).2.2
noncomputable def lpm_network_to_0 : Nat := needR lpa_network_to_0 lpb_network_to_0
noncomputable def f_network_to_j1 (P : Program) (T : Tab) (D : DTab) (N : Nat) {β : Type} (K : AV → Hp → Option β) (v9 : AV) (h : Hp) : Option β :=
ldK 1 false v9 h fun x17 =>
K (.tup [x17, (.s (.int .i64 0))]) h
noncomputable def f_network_to_j2 (P : Program) (T : Tab) (D : DTab) (N : Nat) {β : Type} (xn : Hp → Option β) (h : Hp) : Option β :=
xn h
noncomputable def f_network_to_R0 (P : Program) (T : Tab) (D : DTab) (N : Nat) {β : Type} (L : Nat) (ts : Tm) (xn : Hp → Option β) (v5 : AV) (v9 : AV) (v28 : AV) (h : Hp) : Option β :=
effK (boxE 10 (.agg [.s (.int .i64 0), .s (.int .i64 0), .s (.int .i64 0), .s (.int .i64 0), .s (.int .i64 0), .s (.int .i64 0), .s (.int .i64 0), .s (.int .i64 0), .s (.int .i64 0), .s (.int .i64 0)]) (List.length h)) h fun x18 h19 =>
effK (stE 10 x18 v28 h19) h19 fun x20 h21 =>
beginX L (lpm_network_to_0) (lpp_network_to_0) (lpa_network_to_0) (lpb_network_to_0) ts h21 fun h22 =>
faK 1 x18 fun x23 =>
ldK 1 false x23 h22 fun x24 =>
ldK 1 false v5 h22 fun x25 =>
eqK P false 3 x24 x25 h22 fun x26 =>
condK x26 (
ldK 1 false v9 h22 fun x27 =>
ldK 10 true x18 h22 fun x28 =>
effK (bsE 10 [.s (.int .i64 0), .s (.int .i64 0), .s (.int .i64 0), .s (.int .i64 0), .s (.int .i64 0), .s (.int .i64 0), .s (.int .i64 0), .s (.int .i64 0), .s (.int .i64 0), .s (.int .i64 0)] 1 [(0, x28)] (List.length h22)) h22 fun x29 h30 =>
effK (appE 10 80 x27 x29 h30 (List.length h30)) h30 fun x31 h32 =>
effK (stE 1 v9 x31 h32) h32 fun x33 h34 =>
f_network_to_j2 P T D N xn h34) (
f_network_to_j2 P T D N xn h22)
theorem f_network_to_R0_run (T : Tab) (D : DTab) (N L : Nat) (v5 : AV) (v9 : AV) (v27 : AV) (v28 : AV) (h : Hp) : roundF Try.prog T D N [0, 1, 2, 5, 6, 7, 8, 9, 11, 16, 23, 26, 27, 28, 32] 3 L (lpm_network_to_0) (lpp_network_to_0) (lpa_network_to_0) (lpb_network_to_0) (envT [(5, v5), (9, v9)]) [v27, v28] h = f_network_to_R0 Try.prog T D N L (envT [(5, v5), (9, v9)]) (fun h => some (.s (.bool true), h.set L (.loop (lpm_network_to_0) (lpp_network_to_0) (lpa_network_to_0) (lpb_network_to_0) (envT [(5, v5), (9, v9)]) .ready none))) v5 v9 v28 h := by kernel_rfl
noncomputable def f_network_to (P : Program) (T : Tab) (D : DTab) (N : Nat) {β : Type} (K : AV → Hp → Option β) (a0 : AV) (a1 : AV) (a2 : AV) (h : Hp) : Option β :=
effK (boxE 1 a2 (List.length h)) h fun x1 h2 =>
callK (T 53) [a0, a1] h2 fun x3 h4 =>
eqK P true 26 x3 (.s (.int .i64 0)) h4 fun x5 =>
condK x5 (
K (.tup [(.s (.slice none 0 0)), x3]) h4) (
ldK 1 false x1 h4 fun x6 =>
arithK .lss x6 (.s (.int .i64 1)) fun x7 =>
grpK false x7 h4 (fun k8 =>
ldK 1 false x1 h4 fun x9 =>
arithK .gtr x9 (.s (.int .i64 99)) fun x10 =>
k8 x10 h4) fun x11 h12 =>
condK x11 (
K (.tup [(.s (.slice none 0 0)), (.s (.int .i64 2))]) h12) (
effK (boxE 1 (.s (.slice none 0 0)) (List.length h12)) h12 fun x13 h14 =>
callK (T 69) [a0, a1] h14 fun x15 h16 =>
rangeX T x15 (lpm_network_to_0) (lpp_network_to_0) (lpa_network_to_0) (lpb_network_to_0) (envT [(5, x1), (9, x13)]) h16 fun pd h35 =>
jumpC pd (
f_network_to_j1 P T D N K x13 h35) (fun i36 => bif i36 == 0 then (f_network_to_j1 P T D N K x13 h35) else (none)) (
K (.tup [(.s (.slice none 0 0)), (.s (.int .i64 0))]) h35)))
theorem f_network_to_run (T : Tab) (D : DTab) (N : Nat) {β : Type} (K : AV → Hp → Option β) (a0 : AV) (a1 : AV) (a2 : AV) (h : Hp) : runK Try.prog T D N [0, 1, 2, 5, 6, 7, 8, 9, 11, 16, 23, 26, 27, 28, 32] Try.f49 K [a0, a1, a2] h = f_network_to Try.prog T D N K a0 a1 a2 h := by kernel_rfl
noncomputable def o_ref41_start_j1 (P : Program) (T : Tab) (D : DTab) (N : Nat) {β : Type} (K : AV → Hp → Option β) (t : Tm) (h : Hp) : Option β :=
K (.s (.int .i64 0)) h
noncomputable def o_ref41_start_L2 (P : Program) (T : Tab) (D : DTab) (N : Nat) {β : Type} (t : Tm) (h : Hp) (k : Ex → St → Option β) : Option β :=
lenK (t 1) fun x8 =>
arithK .lss (t 7) x8 fun x9 =>
condK x9 (
iaK 1 (t 1) (t 7) fun x10 =>
ldK 1 false x10 h fun x11 =>
arithK .lss x11 (.s (.int .i64 0)) fun x12 =>
grpK false x12 h (fun k13 =>
iaK 1 (t 1) (t 7) fun x14 =>
ldK 1 false x14 h fun x15 =>
lenK (t 0) fun x16 =>
arithK .geq x15 x16 fun x17 =>
k13 x17 h) fun x18 h19 =>
condK x18 (
k .ret ((upd (upd (upd t 21 x9) 37 x18) 4 (.s (.int .i64 2))), h19)) (
arithK .add (t 7) (.s (.int .i64 1)) fun x20 =>
k .normal ((upd (upd (upd t 21 x9) 37 x18) 7 x20), h19))) (
k (.exit 0) ((upd t 21 x9), h))
noncomputable def o_ref41_start_aL2 (P : Program) (T : Tab) (D : DTab) (N : Nat) {β : Type} (K : AV → Hp → Option β) (e : Ex) (s : St) : Option β :=
  e.on ((o_ref41_start_j1 P T D N K s.1 s.2))
  (fun i => bif i == 0 then ((o_ref41_start_j1 P T D N K s.1 s.2)) else (none))
  (K (s.1 4) s.2)
noncomputable def o_ref41_start_G (P : Program) (T : Tab) (D : DTab) (N : Nat) {β : Type} (cL2 : St → Option β) (K : AV → Hp → Option β) (a0 : AV) (a1 : AV) (h : Hp) :  Option β :=
callK (T 14) [a0] h fun x1 h2 =>
exK x1 0 fun x3 =>
exK x1 1 fun x4 =>
eqK P true 26 x4 (.s (.int .i64 0)) h2 fun x5 =>
condK x5 (
K (.s (.int .i64 1)) h2) (
lenK a1 fun x6 =>
arithK .gtr x6 (.s (.int .i64 256)) fun x7 =>
condK x7 (
K (.s (.int .i64 8)) h2) (
cL2 ((upd (upd (upd (upd (upd (tm0 [a0, a1]) 4 (.s (.int .i64 0))) 6 x4) 14 x5) 17 x7) 7 (.s (.int .i64 0))), h2)))
noncomputable def o_ref41_start (P : Program) (T : Tab) (D : DTab) (N : Nat) {β : Type} (K : AV → Hp → Option β) (a0 : AV) (a1 : AV) (h : Hp) : Option β := o_ref41_start_G P T D N (fun s => iterK (fun s k => o_ref41_start_L2 P T D N s.1 s.2 k) N s (o_ref41_start_aL2 P T D N K)) K a0 a1 h
noncomputable def f_ref41_start_j1 (P : Program) (T : Tab) (D : DTab) (N : Nat) {β : Type} (K : AV → Hp → Option β) (h : Hp) : Option β :=
K (.s (.int .i64 0)) h
noncomputable def f_ref41_start_b2 (P : Program) (T : Tab) (D : DTab) (N : Nat) {β : Type} (xn : AV → AV → AV → Hp → Option β) (x0 : Hp → Option β) (xr : AV → Hp → Option β) (v0 : AV) (v1 : AV) (v7 : AV) (h : Hp) : Option β :=
lenK v1 fun x8 =>
arithK .lss v7 x8 fun x9 =>
condK x9 (
iaK 1 v1 v7 fun x10 =>
ldK 1 false x10 h fun x11 =>
arithK .lss x11 (.s (.int .i64 0)) fun x12 =>
grpK false x12 h (fun k13 =>
iaK 1 v1 v7 fun x14 =>
ldK 1 false x14 h fun x15 =>
lenK v0 fun x16 =>
arithK .geq x15 x16 fun x17 =>
k13 x17 h) fun x18 h19 =>
condK x18 (
xr (.s (.int .i64 2)) h19) (
arithK .add v7 (.s (.int .i64 1)) fun x20 =>
xn v0 v1 x20 h19)) (
x0 h)
noncomputable def f_ref41_start_L2 (P : Program) (T : Tab) (D : DTab) (N : Nat) {β : Type} (x0 : Hp → Option β) (xr : AV → Hp → Option β) : Nat → AV → AV → AV → Hp → Option β
  | 0 => fun _ _ _ _ => none
  | n + 1 => fun v0 v1 v7 h => f_ref41_start_b2 P T D N (f_ref41_start_L2 P T D N x0 xr n) x0 xr v0 v1 v7 h
noncomputable def f_ref41_start (P : Program) (T : Tab) (D : DTab) (N : Nat) {β : Type} (K : AV → Hp → Option β) (a0 : AV) (a1 : AV) (h : Hp) : Option β :=
callK (T 14) [a0] h fun x1 h2 =>
exK x1 0 fun x3 =>
exK x1 1 fun x4 =>
eqK P true 26 x4 (.s (.int .i64 0)) h2 fun x5 =>
condK x5 (
K (.s (.int .i64 1)) h2) (
lenK a1 fun x6 =>
arithK .gtr x6 (.s (.int .i64 256)) fun x7 =>
condK x7 (
K (.s (.int .i64 8)) h2) (
f_ref41_start_L2 P T D N (fun h => f_ref41_start_j1 P T D N K h) (fun w22_4 h => K w22_4 h) N a0 a1 (.s (.int .i64 0)) h2))
theorem f_ref41_start_b2_eq (P : Program) (T : Tab) (D : DTab) (N : Nat) {β : Type} (xn : AV → AV → AV → Hp → Option β) (x0 : Hp → Option β) (xr : AV → Hp → Option β) (xd : Nat → St → Option β) (xq : St → Option β) (t : Tm) (h : Hp) : o_ref41_start_L2 P T D N t h (fun (e : Ex) (s : St) => e.on (xn (s.1 0) (s.1 1) (s.1 7) s.2) (fun i => (bif i == 0 then x0 s.2 else (xd i s))) (xr (s.1 4) s.2)) = f_ref41_start_b2 P T D N xn x0 xr (t 0) (t 1) (t 7) h := by kernel_rfl
theorem f_ref41_start_L2_eq (P : Program) (T : Tab) (D : DTab) (N : Nat) {β : Type} (A : Ex → St → Option β) (x0 : Hp → Option β) (xr : AV → Hp → Option β) (q0 : ∀ s, A (.exit 0) s = x0 s.2) (qr : ∀ s, A .ret s = xr (s.1 4) s.2) : ∀ (n : Nat) (s : St), iterK (fun s k => o_ref41_start_L2 P T D N s.1 s.2 k) n s A = f_ref41_start_L2 P T D N x0 xr n (s.1 0) (s.1 1) (s.1 7) s.2 := by
  intro n
  induction n with
  | zero => intro s; rfl
  | succ n ih =>
    intro s
    have hk : (fun (e : Ex) (s' : St) => Ex.on e (iterK (fun s k => o_ref41_start_L2 P T D N s.1 s.2 k) n s' A) (fun i => A (.exit i) s') (A .ret s')) = (fun (e : Ex) (s : St) => e.on ((f_ref41_start_L2 P T D N x0 xr n) (s.1 0) (s.1 1) (s.1 7) s.2) (fun i => (bif i == 0 then x0 s.2 else (A (.exit i) s))) (xr (s.1 4) s.2)) := by
      funext e s'
      cases e with
      | normal => exact ih s'
      | ret => exact qr s'
      | exit i =>
        by_cases r0 : i = 0
        · subst r0; exact q0 s'
        simp only [Ex.on, beq_false_of_ne r0, cond_false]
    show o_ref41_start_L2 P T D N s.1 s.2 (fun (e : Ex) (s' : St) => Ex.on e (iterK (fun s k => o_ref41_start_L2 P T D N s.1 s.2 k) n s' A) (fun i => A (.exit i) s') (A .ret s')) = _
    rw [hk]
    exact f_ref41_start_b2_eq P T D N (f_ref41_start_L2 P T D N x0 xr n) x0 xr (fun i s => A (.exit i) s) (fun s => A .ret s) s.1 s.2
theorem f_ref41_start_old_eq (P : Program) (T : Tab) (D : DTab) (N : Nat) {β : Type} (K : AV → Hp → Option β) (a0 : AV) (a1 : AV) (h : Hp) : o_ref41_start P T D N K a0 a1 h = f_ref41_start P T D N K a0 a1 h := by
  have eL2 : (fun s : St => iterK (fun s k => o_ref41_start_L2 P T D N s.1 s.2 k) N s (o_ref41_start_aL2 P T D N K)) = (fun s : St => f_ref41_start_L2 P T D N (fun h => f_ref41_start_j1 P T D N K h) (fun w22_4 h => K w22_4 h) N (s.1 0) (s.1 1) (s.1 7) s.2) := funext fun s => f_ref41_start_L2_eq P T D N (o_ref41_start_aL2 P T D N K) (fun h => f_ref41_start_j1 P T D N K h) (fun w22_4 h => K w22_4 h) (fun s => rfl) (fun s => rfl) N s
  show o_ref41_start_G P T D N (fun s => iterK (fun s k => o_ref41_start_L2 P T D N s.1 s.2 k) N s (o_ref41_start_aL2 P T D N K)) K a0 a1 h = _
  rw [eL2]
  kernel_rfl
theorem o_ref41_start_run (T : Tab) (D : DTab) (N : Nat) {β : Type} (K : AV → Hp → Option β) (a0 : AV) (a1 : AV) (h : Hp) : runK Try.prog T D N [0, 1, 4, 6, 7, 14, 17, 21, 37] Try.f50 K [a0, a1] h = o_ref41_start Try.prog T D N K a0 a1 h := by kernel_rfl
theorem f_ref41_start_run (T : Tab) (D : DTab) (N : Nat) {β : Type} (K : AV → Hp → Option β) (a0 : AV) (a1 : AV) (h : Hp) : runK Try.prog T D N [0, 1, 4, 6, 7, 14, 17, 21, 37] Try.f50 K [a0, a1] h = f_ref41_start Try.prog T D N K a0 a1 h := (o_ref41_start_run T D N K a0 a1 h).trans (f_ref41_start_old_eq Try.prog T D N K a0 a1 h)
noncomputable def f_ref40_Node (P : Program) (T : Tab) (D : DTab) (N : Nat) {β : Type} (K : AV → Hp → Option β) (a0 : AV) (h : Hp) : Option β :=
arithK .geq a0 (.s (.int .i64 1)) fun x1 =>
grpK true x1 h (fun k2 =>
arithK .leq a0 (.s (.int .i64 99)) fun x3 =>
k2 x3 h) fun x4 h5 =>
K x4 h5
theorem f_ref40_Node_run (T : Tab) (D : DTab) (N : Nat) {β : Type} (K : AV → Hp → Option β) (a0 : AV) (h : Hp) : runK Try.prog T D N [0, 2] Try.f51 K [a0] h = f_ref40_Node Try.prog T D N K a0 h := by kernel_rfl
noncomputable def f_network_asked (P : Program) (T : Tab) (D : DTab) (N : Nat) {β : Type} (K : AV → Hp → Option β) (a0 : AV) (a1 : AV) (h : Hp) : Option β :=
effK (boxE 1 a0 (List.length h)) h fun x1 h2 =>
ldK 1 false x1 h2 fun x3 =>
callK (T 12) [x3] h2 fun x4 h5 =>
exK x4 0 fun x6 =>
exK x4 1 fun x7 =>
eqK P true 26 x7 (.s (.int .i64 0)) h5 fun x8 =>
condK x8 (
K (.s (.int .i64 1)) h5) (
lenK a1 fun x9 =>
arithK .gtr x9 (.s (.int .i64 256)) fun x10 =>
condK x10 (
K (.s (.int .i64 8)) h5) (
callK (T 72) [a1, (.fn 73 [x1])] h5 fun x11 h12 =>
condK x11 (
K (.s (.int .i64 2)) h12) (
K (.s (.int .i64 0)) h12)))
theorem f_network_asked_run (T : Tab) (D : DTab) (N : Nat) {β : Type} (K : AV → Hp → Option β) (a0 : AV) (a1 : AV) (h : Hp) : runK Try.prog T D N [0, 1, 2, 4, 6, 12, 15, 19] Try.f53 K [a0, a1] h = f_network_asked Try.prog T D N K a0 a1 h := by kernel_rfl
noncomputable def lpp_network_firsts_0 : Array Tmp := (rangeOf Try.f54 0).1
noncomputable def lpa_network_firsts_0 : Code := (rangeOf Try.f54 0).2.1
noncomputable def lpb_network_firsts_0 : Code := (rangeOf Try.f54 0).2.2
noncomputable def lpm_network_firsts_0 : Nat := needR lpa_network_firsts_0 lpb_network_firsts_0
noncomputable def f_network_firsts_j1 (P : Program) (T : Tab) (D : DTab) (N : Nat) {β : Type} (K : AV → Hp → Option β) (v5 : AV) (h : Hp) : Option β :=
ldK 1 false v5 h fun x13 =>
K x13 h
noncomputable def f_network_firsts_j2 (P : Program) (T : Tab) (D : DTab) (N : Nat) {β : Type} (xn : Hp → Option β) (v6 : AV) (h : Hp) : Option β :=
ldK 1 false v6 h fun x15 =>
arithK .add x15 (.s (.int .i64 1)) fun x16 =>
effK (stE 1 v6 x16 h) h fun x17 h18 =>
xn h18
noncomputable def f_network_firsts_R0 (P : Program) (T : Tab) (D : DTab) (N : Nat) {β : Type} (L : Nat) (ts : Tm) (xn : Hp → Option β) (v5 : AV) (v6 : AV) (v14 : AV) (h : Hp) : Option β :=
beginX L (lpm_network_firsts_0) (lpp_network_firsts_0) (lpa_network_firsts_0) (lpb_network_firsts_0) ts h fun h14 =>
ldK 1 false v5 h14 fun x19 =>
lookK P 3 (.s (.int .i64 0)) true x19 v14 h14 fun x20 =>
exK x20 0 fun x21 =>
exK x20 1 fun x22 =>
notK x22 fun x23 =>
condK x23 (
ldK 1 false v5 h14 fun x24 =>
ldK 1 false v6 h14 fun x25 =>
effK (mupE P 3 x24 v14 x25 h14) h14 fun x26 h27 =>
f_network_firsts_j2 P T D N xn v6 h27) (
f_network_firsts_j2 P T D N xn v6 h14)
theorem f_network_firsts_R0_run (T : Tab) (D : DTab) (N L : Nat) (v5 : AV) (v6 : AV) (v14 : AV) (v15 : AV) (h : Hp) : roundF Try.prog T D N [0, 1, 4, 5, 6, 7, 9, 13, 14, 15, 23] 2 L (lpm_network_firsts_0) (lpp_network_firsts_0) (lpa_network_firsts_0) (lpb_network_firsts_0) (envT [(5, v5), (6, v6)]) [v14, v15] h = f_network_firsts_R0 Try.prog T D N L (envT [(5, v5), (6, v6)]) (fun h => some (.s (.bool true), h.set L (.loop (lpm_network_firsts_0) (lpp_network_firsts_0) (lpa_network_firsts_0) (lpb_network_firsts_0) (envT [(5, v5), (6, v6)]) .ready none))) v5 v6 v14 h := by kernel_rfl
noncomputable def f_network_firsts (P : Program) (T : Tab) (D : DTab) (N : Nat) {β : Type} (K : AV → Hp → Option β) (a0 : AV) (a1 : AV) (h : Hp) : Option β :=
effK (some (.mp (List.length h), EN (.map []))) h fun x1 h2 =>
effK (boxE 1 (.s (.map none)) (List.length h2)) h2 fun x3 h4 =>
effK (stE 1 x3 x1 h4) h4 fun x5 h6 =>
effK (boxE 1 (.s (.int .i64 0)) (List.length h6)) h6 fun x7 h8 =>
effK (stE 1 x7 (.s (.int .i64 0)) h8) h8 fun x9 h10 =>
callK (T 69) [a0, a1] h10 fun x11 h12 =>
rangeX T x11 (lpm_network_firsts_0) (lpp_network_firsts_0) (lpa_network_firsts_0) (lpb_network_firsts_0) (envT [(5, x3), (6, x7)]) h12 fun pd h28 =>
jumpC pd (
f_network_firsts_j1 P T D N K x3 h28) (fun i29 => bif i29 == 0 then (f_network_firsts_j1 P T D N K x3 h28) else (none)) (
K (.s (.map none)) h28)
theorem f_network_firsts_run (T : Tab) (D : DTab) (N : Nat) {β : Type} (K : AV → Hp → Option β) (a0 : AV) (a1 : AV) (h : Hp) : runK Try.prog T D N [0, 1, 4, 5, 6, 7, 9, 13, 14, 15, 23] Try.f54 K [a0, a1] h = f_network_firsts Try.prog T D N K a0 a1 h := by kernel_rfl
noncomputable def o_ref41_first_j1 (P : Program) (T : Tab) (D : DTab) (N : Nat) {β : Type} (K : AV → Hp → Option β) (t : Tm) (h : Hp) : Option β :=
K (.s (.int .i64 (-1))) h
noncomputable def o_ref41_first_L2 (P : Program) (T : Tab) (D : DTab) (N : Nat) {β : Type} (t : Tm) (h : Hp) (k : Ex → St → Option β) : Option β :=
lenK (t 0) fun x1 =>
arithK .lss (t 5) x1 fun x2 =>
condK x2 (
iaK 1 (t 0) (t 5) fun x3 =>
ldK 1 false x3 h fun x4 =>
eqK P false 3 x4 (t 1) h fun x5 =>
condK x5 (
k .ret ((upd (upd (upd t 9 x2) 17 x5) 4 (t 5)), h)) (
arithK .add (t 5) (.s (.int .i64 1)) fun x6 =>
k .normal ((upd (upd (upd t 9 x2) 17 x5) 5 x6), h))) (
k (.exit 0) ((upd t 9 x2), h))
noncomputable def o_ref41_first_aL2 (P : Program) (T : Tab) (D : DTab) (N : Nat) {β : Type} (K : AV → Hp → Option β) (e : Ex) (s : St) : Option β :=
  e.on ((o_ref41_first_j1 P T D N K s.1 s.2))
  (fun i => bif i == 0 then ((o_ref41_first_j1 P T D N K s.1 s.2)) else (none))
  (K (s.1 4) s.2)
noncomputable def o_ref41_first_G (P : Program) (T : Tab) (D : DTab) (N : Nat) {β : Type} (cL2 : St → Option β) (K : AV → Hp → Option β) (a0 : AV) (a1 : AV) (h : Hp) :  Option β :=
cL2 ((upd (upd (tm0 [a0, a1]) 4 (.s (.int .i64 0))) 5 (.s (.int .i64 0))), h)
noncomputable def o_ref41_first (P : Program) (T : Tab) (D : DTab) (N : Nat) {β : Type} (K : AV → Hp → Option β) (a0 : AV) (a1 : AV) (h : Hp) : Option β := o_ref41_first_G P T D N (fun s => iterK (fun s k => o_ref41_first_L2 P T D N s.1 s.2 k) N s (o_ref41_first_aL2 P T D N K)) K a0 a1 h
noncomputable def f_ref41_first_j1 (P : Program) (T : Tab) (D : DTab) (N : Nat) {β : Type} (K : AV → Hp → Option β) (h : Hp) : Option β :=
K (.s (.int .i64 (-1))) h
noncomputable def f_ref41_first_b2 (P : Program) (T : Tab) (D : DTab) (N : Nat) {β : Type} (xn : AV → AV → AV → Hp → Option β) (x0 : Hp → Option β) (xr : AV → Hp → Option β) (v0 : AV) (v1 : AV) (v5 : AV) (h : Hp) : Option β :=
lenK v0 fun x1 =>
arithK .lss v5 x1 fun x2 =>
condK x2 (
iaK 1 v0 v5 fun x3 =>
ldK 1 false x3 h fun x4 =>
eqK P false 3 x4 v1 h fun x5 =>
condK x5 (
xr v5 h) (
arithK .add v5 (.s (.int .i64 1)) fun x6 =>
xn v0 v1 x6 h)) (
x0 h)
noncomputable def f_ref41_first_L2 (P : Program) (T : Tab) (D : DTab) (N : Nat) {β : Type} (x0 : Hp → Option β) (xr : AV → Hp → Option β) : Nat → AV → AV → AV → Hp → Option β
  | 0 => fun _ _ _ _ => none
  | n + 1 => fun v0 v1 v5 h => f_ref41_first_b2 P T D N (f_ref41_first_L2 P T D N x0 xr n) x0 xr v0 v1 v5 h
noncomputable def f_ref41_first (P : Program) (T : Tab) (D : DTab) (N : Nat) {β : Type} (K : AV → Hp → Option β) (a0 : AV) (a1 : AV) (h : Hp) : Option β :=
f_ref41_first_L2 P T D N (fun h => f_ref41_first_j1 P T D N K h) (fun w8_4 h => K w8_4 h) N a0 a1 (.s (.int .i64 0)) h
theorem f_ref41_first_b2_eq (P : Program) (T : Tab) (D : DTab) (N : Nat) {β : Type} (xn : AV → AV → AV → Hp → Option β) (x0 : Hp → Option β) (xr : AV → Hp → Option β) (xd : Nat → St → Option β) (xq : St → Option β) (t : Tm) (h : Hp) : o_ref41_first_L2 P T D N t h (fun (e : Ex) (s : St) => e.on (xn (s.1 0) (s.1 1) (s.1 5) s.2) (fun i => (bif i == 0 then x0 s.2 else (xd i s))) (xr (s.1 4) s.2)) = f_ref41_first_b2 P T D N xn x0 xr (t 0) (t 1) (t 5) h := by kernel_rfl
theorem f_ref41_first_L2_eq (P : Program) (T : Tab) (D : DTab) (N : Nat) {β : Type} (A : Ex → St → Option β) (x0 : Hp → Option β) (xr : AV → Hp → Option β) (q0 : ∀ s, A (.exit 0) s = x0 s.2) (qr : ∀ s, A .ret s = xr (s.1 4) s.2) : ∀ (n : Nat) (s : St), iterK (fun s k => o_ref41_first_L2 P T D N s.1 s.2 k) n s A = f_ref41_first_L2 P T D N x0 xr n (s.1 0) (s.1 1) (s.1 5) s.2 := by
  intro n
  induction n with
  | zero => intro s; rfl
  | succ n ih =>
    intro s
    have hk : (fun (e : Ex) (s' : St) => Ex.on e (iterK (fun s k => o_ref41_first_L2 P T D N s.1 s.2 k) n s' A) (fun i => A (.exit i) s') (A .ret s')) = (fun (e : Ex) (s : St) => e.on ((f_ref41_first_L2 P T D N x0 xr n) (s.1 0) (s.1 1) (s.1 5) s.2) (fun i => (bif i == 0 then x0 s.2 else (A (.exit i) s))) (xr (s.1 4) s.2)) := by
      funext e s'
      cases e with
      | normal => exact ih s'
      | ret => exact qr s'
      | exit i =>
        by_cases r0 : i = 0
        · subst r0; exact q0 s'
        simp only [Ex.on, beq_false_of_ne r0, cond_false]
    show o_ref41_first_L2 P T D N s.1 s.2 (fun (e : Ex) (s' : St) => Ex.on e (iterK (fun s k => o_ref41_first_L2 P T D N s.1 s.2 k) n s' A) (fun i => A (.exit i) s') (A .ret s')) = _
    rw [hk]
    exact f_ref41_first_b2_eq P T D N (f_ref41_first_L2 P T D N x0 xr n) x0 xr (fun i s => A (.exit i) s) (fun s => A .ret s) s.1 s.2
theorem f_ref41_first_old_eq (P : Program) (T : Tab) (D : DTab) (N : Nat) {β : Type} (K : AV → Hp → Option β) (a0 : AV) (a1 : AV) (h : Hp) : o_ref41_first P T D N K a0 a1 h = f_ref41_first P T D N K a0 a1 h := by
  have eL2 : (fun s : St => iterK (fun s k => o_ref41_first_L2 P T D N s.1 s.2 k) N s (o_ref41_first_aL2 P T D N K)) = (fun s : St => f_ref41_first_L2 P T D N (fun h => f_ref41_first_j1 P T D N K h) (fun w8_4 h => K w8_4 h) N (s.1 0) (s.1 1) (s.1 5) s.2) := funext fun s => f_ref41_first_L2_eq P T D N (o_ref41_first_aL2 P T D N K) (fun h => f_ref41_first_j1 P T D N K h) (fun w8_4 h => K w8_4 h) (fun s => rfl) (fun s => rfl) N s
  show o_ref41_first_G P T D N (fun s => iterK (fun s k => o_ref41_first_L2 P T D N s.1 s.2 k) N s (o_ref41_first_aL2 P T D N K)) K a0 a1 h = _
  rw [eL2]
  kernel_rfl
theorem o_ref41_first_run (T : Tab) (D : DTab) (N : Nat) {β : Type} (K : AV → Hp → Option β) (a0 : AV) (a1 : AV) (h : Hp) : runK Try.prog T D N [0, 1, 4, 5, 9, 17] Try.f55 K [a0, a1] h = o_ref41_first Try.prog T D N K a0 a1 h := by kernel_rfl
theorem f_ref41_first_run (T : Tab) (D : DTab) (N : Nat) {β : Type} (K : AV → Hp → Option β) (a0 : AV) (a1 : AV) (h : Hp) : runK Try.prog T D N [0, 1, 4, 5, 9, 17] Try.f55 K [a0, a1] h = f_ref41_first Try.prog T D N K a0 a1 h := (o_ref41_first_run T D N K a0 a1 h).trans (f_ref41_first_old_eq Try.prog T D N K a0 a1 h)
noncomputable def o_slices_Index_Message_j1 (P : Program) (T : Tab) (D : DTab) (N : Nat) {β : Type} (K : AV → Hp → Option β) (t : Tm) (h : Hp) : Option β :=
K (.s (.int .i64 (-1))) h
noncomputable def o_slices_Index_Message_L2 (P : Program) (T : Tab) (D : DTab) (N : Nat) {β : Type} (t : Tm) (h : Hp) (k : Ex → St → Option β) : Option β :=
arithK .lss (t 8) (t 7) fun x4 =>
condK x4 (
ldK 7 true (t 3) h fun x5 =>
iaK 7 (t 0) (t 8) fun x6 =>
ldK 7 true x6 h fun x7 =>
eqK P false 31 x5 x7 h fun x8 =>
condK x8 (
k .ret ((upd (upd (upd (upd t 9 x4) 5 (t 8)) 16 x8) 4 (t 8)), h)) (
arithK .add (t 8) (.s (.int .i64 1)) fun x9 =>
k .normal ((upd (upd (upd (upd t 9 x4) 5 (t 8)) 16 x8) 8 x9), h))) (
k (.exit 0) ((upd t 9 x4), h))
noncomputable def o_slices_Index_Message_aL2 (P : Program) (T : Tab) (D : DTab) (N : Nat) {β : Type} (K : AV → Hp → Option β) (e : Ex) (s : St) : Option β :=
  e.on ((o_slices_Index_Message_j1 P T D N K s.1 s.2))
  (fun i => bif i == 0 then ((o_slices_Index_Message_j1 P T D N K s.1 s.2)) else (none))
  (K (s.1 4) s.2)
noncomputable def o_slices_Index_Message_G (P : Program) (T : Tab) (D : DTab) (N : Nat) {β : Type} (cL2 : St → Option β) (K : AV → Hp → Option β) (a0 : AV) (a1 : AV) (h : Hp) :  Option β :=
effK (boxE 7 a1 (List.length h)) h fun x1 h2 =>
lenK a0 fun x3 =>
cL2 ((upd (upd (upd (upd (tm0 [a0, a1]) 3 x1) 4 (.s (.int .i64 0))) 7 x3) 8 (.s (.int .i64 0))), h2)
noncomputable def o_slices_Index_Message (P : Program) (T : Tab) (D : DTab) (N : Nat) {β : Type} (K : AV → Hp → Option β) (a0 : AV) (a1 : AV) (h : Hp) : Option β := o_slices_Index_Message_G P T D N (fun s => iterK (fun s k => o_slices_Index_Message_L2 P T D N s.1 s.2 k) N s (o_slices_Index_Message_aL2 P T D N K)) K a0 a1 h
noncomputable def f_slices_Index_Message_j1 (P : Program) (T : Tab) (D : DTab) (N : Nat) {β : Type} (K : AV → Hp → Option β) (h : Hp) : Option β :=
K (.s (.int .i64 (-1))) h
noncomputable def f_slices_Index_Message_b2 (P : Program) (T : Tab) (D : DTab) (N : Nat) {β : Type} (xn : AV → AV → AV → AV → Hp → Option β) (x0 : Hp → Option β) (xr : AV → Hp → Option β) (v0 : AV) (v3 : AV) (v7 : AV) (v8 : AV) (h : Hp) : Option β :=
arithK .lss v8 v7 fun x4 =>
condK x4 (
ldK 7 true v3 h fun x5 =>
iaK 7 v0 v8 fun x6 =>
ldK 7 true x6 h fun x7 =>
eqK P false 31 x5 x7 h fun x8 =>
condK x8 (
xr v8 h) (
arithK .add v8 (.s (.int .i64 1)) fun x9 =>
xn v0 v3 v7 x9 h)) (
x0 h)
noncomputable def f_slices_Index_Message_L2 (P : Program) (T : Tab) (D : DTab) (N : Nat) {β : Type} (x0 : Hp → Option β) (xr : AV → Hp → Option β) : Nat → AV → AV → AV → AV → Hp → Option β
  | 0 => fun _ _ _ _ _ => none
  | n + 1 => fun v0 v3 v7 v8 h => f_slices_Index_Message_b2 P T D N (f_slices_Index_Message_L2 P T D N x0 xr n) x0 xr v0 v3 v7 v8 h
noncomputable def f_slices_Index_Message (P : Program) (T : Tab) (D : DTab) (N : Nat) {β : Type} (K : AV → Hp → Option β) (a0 : AV) (a1 : AV) (h : Hp) : Option β :=
effK (boxE 7 a1 (List.length h)) h fun x1 h2 =>
lenK a0 fun x3 =>
f_slices_Index_Message_L2 P T D N (fun h => f_slices_Index_Message_j1 P T D N K h) (fun w11_4 h => K w11_4 h) N a0 x1 x3 (.s (.int .i64 0)) h2
theorem f_slices_Index_Message_b2_eq (P : Program) (T : Tab) (D : DTab) (N : Nat) {β : Type} (xn : AV → AV → AV → AV → Hp → Option β) (x0 : Hp → Option β) (xr : AV → Hp → Option β) (xd : Nat → St → Option β) (xq : St → Option β) (t : Tm) (h : Hp) : o_slices_Index_Message_L2 P T D N t h (fun (e : Ex) (s : St) => e.on (xn (s.1 0) (s.1 3) (s.1 7) (s.1 8) s.2) (fun i => (bif i == 0 then x0 s.2 else (xd i s))) (xr (s.1 4) s.2)) = f_slices_Index_Message_b2 P T D N xn x0 xr (t 0) (t 3) (t 7) (t 8) h := by kernel_rfl
theorem f_slices_Index_Message_L2_eq (P : Program) (T : Tab) (D : DTab) (N : Nat) {β : Type} (A : Ex → St → Option β) (x0 : Hp → Option β) (xr : AV → Hp → Option β) (q0 : ∀ s, A (.exit 0) s = x0 s.2) (qr : ∀ s, A .ret s = xr (s.1 4) s.2) : ∀ (n : Nat) (s : St), iterK (fun s k => o_slices_Index_Message_L2 P T D N s.1 s.2 k) n s A = f_slices_Index_Message_L2 P T D N x0 xr n (s.1 0) (s.1 3) (s.1 7) (s.1 8) s.2 := by
  intro n
  induction n with
  | zero => intro s; rfl
  | succ n ih =>
    intro s
    have hk : (fun (e : Ex) (s' : St) => Ex.on e (iterK (fun s k => o_slices_Index_Message_L2 P T D N s.1 s.2 k) n s' A) (fun i => A (.exit i) s') (A .ret s')) = (fun (e : Ex) (s : St) => e.on ((f_slices_Index_Message_L2 P T D N x0 xr n) (s.1 0) (s.1 3) (s.1 7) (s.1 8) s.2) (fun i => (bif i == 0 then x0 s.2 else (A (.exit i) s))) (xr (s.1 4) s.2)) := by
      funext e s'
      cases e with
      | normal => exact ih s'
      | ret => exact qr s'
      | exit i =>
        by_cases r0 : i = 0
        · subst r0; exact q0 s'
        simp only [Ex.on, beq_false_of_ne r0, cond_false]
    show o_slices_Index_Message_L2 P T D N s.1 s.2 (fun (e : Ex) (s' : St) => Ex.on e (iterK (fun s k => o_slices_Index_Message_L2 P T D N s.1 s.2 k) n s' A) (fun i => A (.exit i) s') (A .ret s')) = _
    rw [hk]
    exact f_slices_Index_Message_b2_eq P T D N (f_slices_Index_Message_L2 P T D N x0 xr n) x0 xr (fun i s => A (.exit i) s) (fun s => A .ret s) s.1 s.2
theorem f_slices_Index_Message_old_eq (P : Program) (T : Tab) (D : DTab) (N : Nat) {β : Type} (K : AV → Hp → Option β) (a0 : AV) (a1 : AV) (h : Hp) : o_slices_Index_Message P T D N K a0 a1 h = f_slices_Index_Message P T D N K a0 a1 h := by
  have eL2 : (fun s : St => iterK (fun s k => o_slices_Index_Message_L2 P T D N s.1 s.2 k) N s (o_slices_Index_Message_aL2 P T D N K)) = (fun s : St => f_slices_Index_Message_L2 P T D N (fun h => f_slices_Index_Message_j1 P T D N K h) (fun w11_4 h => K w11_4 h) N (s.1 0) (s.1 3) (s.1 7) (s.1 8) s.2) := funext fun s => f_slices_Index_Message_L2_eq P T D N (o_slices_Index_Message_aL2 P T D N K) (fun h => f_slices_Index_Message_j1 P T D N K h) (fun w11_4 h => K w11_4 h) (fun s => rfl) (fun s => rfl) N s
  show o_slices_Index_Message_G P T D N (fun s => iterK (fun s k => o_slices_Index_Message_L2 P T D N s.1 s.2 k) N s (o_slices_Index_Message_aL2 P T D N K)) K a0 a1 h = _
  rw [eL2]
  kernel_rfl
theorem o_slices_Index_Message_run (T : Tab) (D : DTab) (N : Nat) {β : Type} (K : AV → Hp → Option β) (a0 : AV) (a1 : AV) (h : Hp) : runK Try.prog T D N [0, 1, 3, 4, 5, 7, 8, 9, 16] Try.f60 K [a0, a1] h = o_slices_Index_Message Try.prog T D N K a0 a1 h := by kernel_rfl
theorem f_slices_Index_Message_run (T : Tab) (D : DTab) (N : Nat) {β : Type} (K : AV → Hp → Option β) (a0 : AV) (a1 : AV) (h : Hp) : runK Try.prog T D N [0, 1, 3, 4, 5, 7, 8, 9, 16] Try.f60 K [a0, a1] h = f_slices_Index_Message Try.prog T D N K a0 a1 h := (o_slices_Index_Message_run T D N K a0 a1 h).trans (f_slices_Index_Message_old_eq Try.prog T D N K a0 a1 h)
noncomputable def f_document_Normal_1 (P : Program) (T : Tab) (D : DTab) (N : Nat) {β : Type} (K : AV → Hp → Option β) (a0 : AV) (h : Hp) : Option β :=
effK (boxE 7 a0 (List.length h)) h fun x1 h2 =>
ldK 7 true x1 h2 fun x3 =>
callK (T 47) [x3] h2 fun x4 h5 =>
eqK P true 26 x4 (.s (.int .i64 0)) h5 fun x6 =>
K x6 h5
theorem f_document_Normal_1_run (T : Tab) (D : DTab) (N : Nat) {β : Type} (K : AV → Hp → Option β) (a0 : AV) (h : Hp) : runK Try.prog T D N [0, 1, 2] Try.f61 K [a0] h = f_document_Normal_1 Try.prog T D N K a0 h := by kernel_rfl
noncomputable def f_document_compare (P : Program) (T : Tab) (D : DTab) (N : Nat) {β : Type} (K : AV → Hp → Option β) (a0 : AV) (a1 : AV) (h : Hp) : Option β :=
effK (boxE 7 a0 (List.length h)) h fun x1 h2 =>
effK (boxE 7 a1 (List.length h2)) h2 fun x3 h4 =>
faK 0 x1 fun x5 =>
ldK 1 false x5 h4 fun x6 =>
faK 0 x3 fun x7 =>
ldK 1 false x7 h4 fun x8 =>
effD (callE (D 77) [x6, x8] h4 (List.length h4)) h4 fun x9 h10 e11 =>
faK 1 x1 fun x12 =>
ldK 1 false x12 h10 fun x13 =>
faK 1 x3 fun x14 =>
ldK 1 false x14 h10 fun x15 =>
effD (callE (D 77) [x13, x15] h10 (List.length h10)) h10 fun x16 h17 e18 =>
faK 2 x1 fun x19 =>
ldK 1 false x19 h17 fun x20 =>
faK 2 x3 fun x21 =>
ldK 1 false x21 h17 fun x22 =>
effD (callE (D 77) [x20, x22] h17 (List.length h17)) h17 fun x23 h24 e25 =>
faK 3 x1 fun x26 =>
ldK 1 false x26 h24 fun x27 =>
faK 3 x3 fun x28 =>
ldK 1 false x28 h24 fun x29 =>
effD (callE (D 77) [x27, x29] h24 (List.length h24)) h24 fun x30 h31 e32 =>
faK 4 x1 fun x33 =>
ldK 1 false x33 h31 fun x34 =>
faK 4 x3 fun x35 =>
ldK 1 false x35 h31 fun x36 =>
effD (callE (D 77) [x34, x36] h31 (List.length h31)) h31 fun x37 h38 e39 =>
faK 5 x1 fun x40 =>
ldK 1 false x40 h38 fun x41 =>
faK 5 x3 fun x42 =>
ldK 1 false x42 h38 fun x43 =>
effD (callE (D 77) [x41, x43] h38 (List.length h38)) h38 fun x44 h45 e46 =>
faK 6 x1 fun x47 =>
ldK 1 false x47 h45 fun x48 =>
faK 6 x3 fun x49 =>
ldK 1 false x49 h45 fun x50 =>
effD (callE (D 77) [x48, x50] h45 (List.length h45)) h45 fun x51 h52 e53 =>
effD (bsE 1 [.s (.int .i64 0)] 7 [(0, x9), (1, x16), (2, x23), (3, x30), (4, x37), (5, x44), (6, x51)] (List.length h52)) h52 fun x54 h55 e56 =>
effD (callE (D 76) [x54] h55 (List.length h55)) h55 fun x57 h58 e59 =>
bif disjAll [(4, 6), (4, 8), (4, 11), (9, 11), (4, 13), (9, 13), (4, 16), (9, 16), (14, 16), (4, 18), (9, 18), (14, 18), (4, 21), (9, 21), (14, 21), (19, 21), (4, 23), (9, 23), (14, 23), (19, 23), (4, 26), (9, 26), (14, 26), (19, 26), (24, 26), (4, 28), (9, 28), (14, 28), (19, 28), (24, 28), (4, 31), (9, 31), (14, 31), (19, 31), (24, 31), (29, 31), (4, 33), (9, 33), (14, 33), (19, 33), (24, 33), (29, 33)] [([], []), ((idsOf x5), []), ([], []), ((idsOf x7), []), e11, ([], []), ((idsOf x12), []), ([], []), ((idsOf x14), []), e18, ([], []), ((idsOf x19), []), ([], []), ((idsOf x21), []), e25, ([], []), ((idsOf x26), []), ([], []), ((idsOf x28), []), e32, ([], []), ((idsOf x33), []), ([], []), ((idsOf x35), []), e39, ([], []), ((idsOf x40), []), ([], []), ((idsOf x42), []), e46, ([], []), ((idsOf x47), []), ([], []), ((idsOf x49), []), e53, e56, e59, ([], [])] then (
K x57 h58) else none
theorem f_document_compare_run (T : Tab) (D : DTab) (N : Nat) {β : Type} (K : AV → Hp → Option β) (a0 : AV) (a1 : AV) (h : Hp) : runK Try.prog T D N [0, 1, 2, 3, 4] Try.f63 K [a0, a1] h = f_document_compare Try.prog T D N K a0 a1 h := by kernel_rfl
noncomputable def o_slices_Compact_Message_j1 (P : Program) (T : Tab) (D : DTab) (N : Nat) {β : Type} (K : AV → Hp → Option β) (t : Tm) (h : Hp) : Option β :=
K (t 0) h
noncomputable def o_slices_Compact_Message_j3 (P : Program) (T : Tab) (D : DTab) (N : Nat) {β : Type} (k : Ex → St → Option β) (t : Tm) (h : Hp) : Option β :=
arithK .add (t 3) (.s (.int .i64 1)) fun x5 =>
k .normal ((upd t 3 x5), h)
noncomputable def o_slices_Compact_Message_j4 (P : Program) (T : Tab) (D : DTab) (N : Nat) {β : Type} (k : Ex → St → Option β) (t : Tm) (h : Hp) : Option β :=
sliceK 7 (t 0) (some (t 3)) none none fun x13 =>
effK (clrE 7 [.s (.int .i64 0), .s (.int .i64 0), .s (.int .i64 0), .s (.int .i64 0), .s (.int .i64 0), .s (.int .i64 0), .s (.int .i64 0)] x13 h) h fun x14 h15 =>
sliceK 7 (t 0) none (some (t 3)) none fun x16 =>
k .ret ((upd t 2 x16), h15)
noncomputable def o_slices_Compact_Message_j6 (P : Program) (T : Tab) (D : DTab) (N : Nat) {β : Type} (k : Ex → St → Option β) (t : Tm) (h : Hp) : Option β :=
arithK .add (t 5) (.s (.int .i64 1)) fun x19 =>
k .normal ((upd t 5 x19), h)
noncomputable def o_slices_Compact_Message_j7 (P : Program) (T : Tab) (D : DTab) (N : Nat) {β : Type} (k : Ex → St → Option β) (t : Tm) (h : Hp) : Option β :=
(o_slices_Compact_Message_j6 P T D N k t h)
noncomputable def o_slices_Compact_Message_L5 (P : Program) (T : Tab) (D : DTab) (N : Nat) {β : Type} (t : Tm) (h : Hp) (k : Ex → St → Option β) : Option β :=
lenK (t 4) fun x17 =>
arithK .lss (t 5) x17 fun x18 =>
condK x18 (
iaK 7 (t 4) (t 5) fun x20 =>
ldK 7 true x20 h fun x21 =>
arithK .sub (t 5) (.s (.int .i64 1)) fun x22 =>
iaK 7 (t 4) x22 fun x23 =>
ldK 7 true x23 h fun x24 =>
eqK P true 31 x21 x24 h fun x25 =>
condK x25 (
iaK 7 (t 4) (t 5) fun x26 =>
ldK 7 true x26 h fun x27 =>
iaK 7 (t 0) (t 3) fun x28 =>
effK (stE 7 x28 x27 h) h fun x29 h30 =>
arithK .add (t 3) (.s (.int .i64 1)) fun x31 =>
(o_slices_Compact_Message_j7 P T D N k (upd (upd (upd t 32 x18) 44 x25) 3 x31) h30)) (
(o_slices_Compact_Message_j7 P T D N k (upd (upd t 32 x18) 44 x25) h))) (
k (.exit 2) ((upd t 32 x18), h))
noncomputable def o_slices_Compact_Message_aL5 (P : Program) (T : Tab) (D : DTab) (N : Nat) {β : Type} (k : Ex → St → Option β) (e : Ex) (s : St) : Option β :=
  e.on ((o_slices_Compact_Message_j4 P T D N k s.1 s.2))
  (fun i => bif i == 2 then ((o_slices_Compact_Message_j4 P T D N k s.1 s.2)) else (bif i == 1 then ((o_slices_Compact_Message_j3 P T D N k s.1 s.2)) else (k (.exit i) (s.1, s.2))))
  (k .ret (s.1, s.2))
noncomputable def o_slices_Compact_Message_L2_G (P : Program) (T : Tab) (D : DTab) (N : Nat) {β : Type} (cL5 : St → Option β) (cj3 : St → Option β) (t : Tm) (h : Hp) (k : Ex → St → Option β) :  Option β :=
lenK (t 0) fun x3 =>
arithK .lss (t 3) x3 fun x4 =>
condK x4 (
iaK 7 (t 0) (t 3) fun x6 =>
ldK 7 true x6 h fun x7 =>
arithK .sub (t 3) (.s (.int .i64 1)) fun x8 =>
iaK 7 (t 0) x8 fun x9 =>
ldK 7 true x9 h fun x10 =>
eqK P false 31 x7 x10 h fun x11 =>
condK x11 (
sliceK 7 (t 0) (some (t 3)) none none fun x12 =>
cL5 ((upd (upd (upd (upd t 13 x4) 25 x11) 4 x12) 5 (.s (.int .i64 1))), h)) (
cj3 ((upd (upd t 13 x4) 25 x11), h))) (
k (.exit 0) ((upd t 13 x4), h))
noncomputable def o_slices_Compact_Message_L2 (P : Program) (T : Tab) (D : DTab) (N : Nat) {β : Type} (t : Tm) (h : Hp) (k : Ex → St → Option β) : Option β := o_slices_Compact_Message_L2_G P T D N (fun s => iterK (fun s k => o_slices_Compact_Message_L5 P T D N s.1 s.2 k) N s (o_slices_Compact_Message_aL5 P T D N k)) (fun s => (o_slices_Compact_Message_j3 P T D N k s.1 s.2)) t h k
noncomputable def o_slices_Compact_Message_aL2 (P : Program) (T : Tab) (D : DTab) (N : Nat) {β : Type} (K : AV → Hp → Option β) (e : Ex) (s : St) : Option β :=
  e.on ((o_slices_Compact_Message_j1 P T D N K s.1 s.2))
  (fun i => bif i == 0 then ((o_slices_Compact_Message_j1 P T D N K s.1 s.2)) else (none))
  (K (s.1 2) s.2)
noncomputable def o_slices_Compact_Message_G (P : Program) (T : Tab) (D : DTab) (N : Nat) {β : Type} (cL2 : St → Option β) (K : AV → Hp → Option β) (a0 : AV) (h : Hp) :  Option β :=
lenK a0 fun x1 =>
arithK .lss x1 (.s (.int .i64 2)) fun x2 =>
condK x2 (
K a0 h) (
cL2 ((upd (upd (upd (tm0 [a0]) 2 (.s (.slice none 0 0))) 8 x2) 3 (.s (.int .i64 1))), h))
noncomputable def o_slices_Compact_Message (P : Program) (T : Tab) (D : DTab) (N : Nat) {β : Type} (K : AV → Hp → Option β) (a0 : AV) (h : Hp) : Option β := o_slices_Compact_Message_G P T D N (fun s => iterK (fun s k => o_slices_Compact_Message_L2 P T D N s.1 s.2 k) N s (o_slices_Compact_Message_aL2 P T D N K)) K a0 h
noncomputable def f_slices_Compact_Message_j1 (P : Program) (T : Tab) (D : DTab) (N : Nat) {β : Type} (K : AV → Hp → Option β) (v0 : AV) (h : Hp) : Option β :=
K v0 h
noncomputable def f_slices_Compact_Message_j3 (P : Program) (T : Tab) (D : DTab) (N : Nat) {β : Type} (xn : AV → AV → Hp → Option β) (x0 : AV → Hp → Option β) (xr : AV → Hp → Option β) (v0 : AV) (v3 : AV) (h : Hp) : Option β :=
arithK .add v3 (.s (.int .i64 1)) fun x5 =>
xn v0 x5 h
noncomputable def f_slices_Compact_Message_j4 (P : Program) (T : Tab) (D : DTab) (N : Nat) {β : Type} (xn : AV → AV → Hp → Option β) (x0 : AV → Hp → Option β) (xr : AV → Hp → Option β) (v0 : AV) (v3 : AV) (h : Hp) : Option β :=
sliceK 7 v0 (some v3) none none fun x13 =>
effK (clrE 7 [.s (.int .i64 0), .s (.int .i64 0), .s (.int .i64 0), .s (.int .i64 0), .s (.int .i64 0), .s (.int .i64 0), .s (.int .i64 0)] x13 h) h fun x14 h15 =>
sliceK 7 v0 none (some v3) none fun x16 =>
xr x16 h15
noncomputable def f_slices_Compact_Message_j6 (P : Program) (T : Tab) (D : DTab) (N : Nat) {β : Type} (xn : AV → AV → AV → AV → Hp → Option β) (x2 : AV → AV → Hp → Option β) (v0 : AV) (v3 : AV) (v4 : AV) (v5 : AV) (h : Hp) : Option β :=
arithK .add v5 (.s (.int .i64 1)) fun x19 =>
xn v0 v3 v4 x19 h
noncomputable def f_slices_Compact_Message_j7 (P : Program) (T : Tab) (D : DTab) (N : Nat) {β : Type} (xn : AV → AV → AV → AV → Hp → Option β) (x2 : AV → AV → Hp → Option β) (v0 : AV) (v3 : AV) (v4 : AV) (v5 : AV) (h : Hp) : Option β :=
f_slices_Compact_Message_j6 P T D N xn x2 v0 v3 v4 v5 h
noncomputable def f_slices_Compact_Message_b5 (P : Program) (T : Tab) (D : DTab) (N : Nat) {β : Type} (xn : AV → AV → AV → AV → Hp → Option β) (x2 : AV → AV → Hp → Option β) (v0 : AV) (v3 : AV) (v4 : AV) (v5 : AV) (h : Hp) : Option β :=
lenK v4 fun x17 =>
arithK .lss v5 x17 fun x18 =>
condK x18 (
iaK 7 v4 v5 fun x20 =>
ldK 7 true x20 h fun x21 =>
arithK .sub v5 (.s (.int .i64 1)) fun x22 =>
iaK 7 v4 x22 fun x23 =>
ldK 7 true x23 h fun x24 =>
eqK P true 31 x21 x24 h fun x25 =>
condK x25 (
iaK 7 v4 v5 fun x26 =>
ldK 7 true x26 h fun x27 =>
iaK 7 v0 v3 fun x28 =>
effK (stE 7 x28 x27 h) h fun x29 h30 =>
arithK .add v3 (.s (.int .i64 1)) fun x31 =>
f_slices_Compact_Message_j7 P T D N xn x2 v0 x31 v4 v5 h30) (
f_slices_Compact_Message_j7 P T D N xn x2 v0 v3 v4 v5 h)) (
x2 v0 v3 h)
noncomputable def f_slices_Compact_Message_L5 (P : Program) (T : Tab) (D : DTab) (N : Nat) {β : Type} (x2 : AV → AV → Hp → Option β) : Nat → AV → AV → AV → AV → Hp → Option β
  | 0 => fun _ _ _ _ _ => none
  | n + 1 => fun v0 v3 v4 v5 h => f_slices_Compact_Message_b5 P T D N (f_slices_Compact_Message_L5 P T D N x2 n) x2 v0 v3 v4 v5 h
noncomputable def f_slices_Compact_Message_b2 (P : Program) (T : Tab) (D : DTab) (N : Nat) {β : Type} (xn : AV → AV → Hp → Option β) (x0 : AV → Hp → Option β) (xr : AV → Hp → Option β) (v0 : AV) (v3 : AV) (h : Hp) : Option β :=
lenK v0 fun x3 =>
arithK .lss v3 x3 fun x4 =>
condK x4 (
iaK 7 v0 v3 fun x6 =>
ldK 7 true x6 h fun x7 =>
arithK .sub v3 (.s (.int .i64 1)) fun x8 =>
iaK 7 v0 x8 fun x9 =>
ldK 7 true x9 h fun x10 =>
eqK P false 31 x7 x10 h fun x11 =>
condK x11 (
sliceK 7 v0 (some v3) none none fun x12 =>
f_slices_Compact_Message_L5 P T D N (fun w32_0 w32_3 h => f_slices_Compact_Message_j4 P T D N xn x0 xr w32_0 w32_3 h) N v0 v3 x12 (.s (.int .i64 1)) h) (
f_slices_Compact_Message_j3 P T D N xn x0 xr v0 v3 h)) (
x0 v0 h)
noncomputable def f_slices_Compact_Message_L2 (P : Program) (T : Tab) (D : DTab) (N : Nat) {β : Type} (x0 : AV → Hp → Option β) (xr : AV → Hp → Option β) : Nat → AV → AV → Hp → Option β
  | 0 => fun _ _ _ => none
  | n + 1 => fun v0 v3 h => f_slices_Compact_Message_b2 P T D N (f_slices_Compact_Message_L2 P T D N x0 xr n) x0 xr v0 v3 h
noncomputable def f_slices_Compact_Message (P : Program) (T : Tab) (D : DTab) (N : Nat) {β : Type} (K : AV → Hp → Option β) (a0 : AV) (h : Hp) : Option β :=
lenK a0 fun x1 =>
arithK .lss x1 (.s (.int .i64 2)) fun x2 =>
condK x2 (
K a0 h) (
f_slices_Compact_Message_L2 P T D N (fun w33_0 h => f_slices_Compact_Message_j1 P T D N K w33_0 h) (fun w34_2 h => K w34_2 h) N a0 (.s (.int .i64 1)) h)
theorem f_slices_Compact_Message_j3_eq (P : Program) (T : Tab) (D : DTab) (N : Nat) {β : Type} (xn : AV → AV → Hp → Option β) (x0 : AV → Hp → Option β) (xr : AV → Hp → Option β) (xd : Nat → St → Option β) (xq : St → Option β) (t : Tm) (h : Hp) : o_slices_Compact_Message_j3 P T D N (fun (e : Ex) (s : St) => e.on (xn (s.1 0) (s.1 3) s.2) (fun i => (bif i == 0 then x0 (s.1 0) s.2 else (xd i s))) (xr (s.1 2) s.2)) t h = f_slices_Compact_Message_j3 P T D N xn x0 xr (t 0) (t 3) h := by kernel_rfl
theorem f_slices_Compact_Message_b5_eq (P : Program) (T : Tab) (D : DTab) (N : Nat) {β : Type} (xn : AV → AV → AV → AV → Hp → Option β) (x2 : AV → AV → Hp → Option β) (xd : Nat → St → Option β) (xq : St → Option β) (t : Tm) (h : Hp) : o_slices_Compact_Message_L5 P T D N t h (fun (e : Ex) (s : St) => e.on (xn (s.1 0) (s.1 3) (s.1 4) (s.1 5) s.2) (fun i => (bif i == 2 then x2 (s.1 0) (s.1 3) s.2 else (xd i s))) (xq s)) = f_slices_Compact_Message_b5 P T D N xn x2 (t 0) (t 3) (t 4) (t 5) h := by kernel_rfl
theorem f_slices_Compact_Message_L5_eq (P : Program) (T : Tab) (D : DTab) (N : Nat) {β : Type} (A : Ex → St → Option β) (x2 : AV → AV → Hp → Option β) (q2 : ∀ s, A (.exit 2) s = x2 (s.1 0) (s.1 3) s.2) : ∀ (n : Nat) (s : St), iterK (fun s k => o_slices_Compact_Message_L5 P T D N s.1 s.2 k) n s A = f_slices_Compact_Message_L5 P T D N x2 n (s.1 0) (s.1 3) (s.1 4) (s.1 5) s.2 := by
  intro n
  induction n with
  | zero => intro s; rfl
  | succ n ih =>
    intro s
    have hk : (fun (e : Ex) (s' : St) => Ex.on e (iterK (fun s k => o_slices_Compact_Message_L5 P T D N s.1 s.2 k) n s' A) (fun i => A (.exit i) s') (A .ret s')) = (fun (e : Ex) (s : St) => e.on ((f_slices_Compact_Message_L5 P T D N x2 n) (s.1 0) (s.1 3) (s.1 4) (s.1 5) s.2) (fun i => (bif i == 2 then x2 (s.1 0) (s.1 3) s.2 else (A (.exit i) s))) (A .ret s)) := by
      funext e s'
      cases e with
      | normal => exact ih s'
      | ret => exact rfl
      | exit i =>
        by_cases r2 : i = 2
        · subst r2; exact q2 s'
        simp only [Ex.on, beq_false_of_ne r2, cond_false]
    show o_slices_Compact_Message_L5 P T D N s.1 s.2 (fun (e : Ex) (s' : St) => Ex.on e (iterK (fun s k => o_slices_Compact_Message_L5 P T D N s.1 s.2 k) n s' A) (fun i => A (.exit i) s') (A .ret s')) = _
    rw [hk]
    exact f_slices_Compact_Message_b5_eq P T D N (f_slices_Compact_Message_L5 P T D N x2 n) x2 (fun i s => A (.exit i) s) (fun s => A .ret s) s.1 s.2
theorem f_slices_Compact_Message_b2_eq (P : Program) (T : Tab) (D : DTab) (N : Nat) {β : Type} (xn : AV → AV → Hp → Option β) (x0 : AV → Hp → Option β) (xr : AV → Hp → Option β) (xd : Nat → St → Option β) (xq : St → Option β) (t : Tm) (h : Hp) : o_slices_Compact_Message_L2 P T D N t h (fun (e : Ex) (s : St) => e.on (xn (s.1 0) (s.1 3) s.2) (fun i => (bif i == 0 then x0 (s.1 0) s.2 else (xd i s))) (xr (s.1 2) s.2)) = f_slices_Compact_Message_b2 P T D N xn x0 xr (t 0) (t 3) h := by
  have eL5 : (fun s : St => iterK (fun s k => o_slices_Compact_Message_L5 P T D N s.1 s.2 k) N s (o_slices_Compact_Message_aL5 P T D N (fun (e : Ex) (s : St) => e.on (xn (s.1 0) (s.1 3) s.2) (fun i => (bif i == 0 then x0 (s.1 0) s.2 else (xd i s))) (xr (s.1 2) s.2)))) = (fun s : St => f_slices_Compact_Message_L5 P T D N (fun w32_0 w32_3 h => f_slices_Compact_Message_j4 P T D N xn x0 xr w32_0 w32_3 h) N (s.1 0) (s.1 3) (s.1 4) (s.1 5) s.2) := funext fun s => f_slices_Compact_Message_L5_eq P T D N (o_slices_Compact_Message_aL5 P T D N (fun (e : Ex) (s : St) => e.on (xn (s.1 0) (s.1 3) s.2) (fun i => (bif i == 0 then x0 (s.1 0) s.2 else (xd i s))) (xr (s.1 2) s.2))) (fun w32_0 w32_3 h => f_slices_Compact_Message_j4 P T D N xn x0 xr w32_0 w32_3 h) (fun s => rfl) N s
  have ej3 : (fun s : St => o_slices_Compact_Message_j3 P T D N (fun (e : Ex) (s : St) => e.on (xn (s.1 0) (s.1 3) s.2) (fun i => (bif i == 0 then x0 (s.1 0) s.2 else (xd i s))) (xr (s.1 2) s.2)) s.1 s.2) = (fun s : St => f_slices_Compact_Message_j3 P T D N xn x0 xr (s.1 0) (s.1 3) s.2) := funext fun s => f_slices_Compact_Message_j3_eq P T D N xn x0 xr xd xq s.1 s.2
  show o_slices_Compact_Message_L2_G P T D N (fun s => iterK (fun s k => o_slices_Compact_Message_L5 P T D N s.1 s.2 k) N s (o_slices_Compact_Message_aL5 P T D N (fun (e : Ex) (s : St) => e.on (xn (s.1 0) (s.1 3) s.2) (fun i => (bif i == 0 then x0 (s.1 0) s.2 else (xd i s))) (xr (s.1 2) s.2)))) (fun s => o_slices_Compact_Message_j3 P T D N (fun (e : Ex) (s : St) => e.on (xn (s.1 0) (s.1 3) s.2) (fun i => (bif i == 0 then x0 (s.1 0) s.2 else (xd i s))) (xr (s.1 2) s.2)) s.1 s.2) t h (fun (e : Ex) (s : St) => e.on (xn (s.1 0) (s.1 3) s.2) (fun i => (bif i == 0 then x0 (s.1 0) s.2 else (xd i s))) (xr (s.1 2) s.2)) = _
  rw [eL5, ej3]
  kernel_rfl
theorem f_slices_Compact_Message_L2_eq (P : Program) (T : Tab) (D : DTab) (N : Nat) {β : Type} (A : Ex → St → Option β) (x0 : AV → Hp → Option β) (xr : AV → Hp → Option β) (q0 : ∀ s, A (.exit 0) s = x0 (s.1 0) s.2) (qr : ∀ s, A .ret s = xr (s.1 2) s.2) : ∀ (n : Nat) (s : St), iterK (fun s k => o_slices_Compact_Message_L2 P T D N s.1 s.2 k) n s A = f_slices_Compact_Message_L2 P T D N x0 xr n (s.1 0) (s.1 3) s.2 := by
  intro n
  induction n with
  | zero => intro s; rfl
  | succ n ih =>
    intro s
    have hk : (fun (e : Ex) (s' : St) => Ex.on e (iterK (fun s k => o_slices_Compact_Message_L2 P T D N s.1 s.2 k) n s' A) (fun i => A (.exit i) s') (A .ret s')) = (fun (e : Ex) (s : St) => e.on ((f_slices_Compact_Message_L2 P T D N x0 xr n) (s.1 0) (s.1 3) s.2) (fun i => (bif i == 0 then x0 (s.1 0) s.2 else (A (.exit i) s))) (xr (s.1 2) s.2)) := by
      funext e s'
      cases e with
      | normal => exact ih s'
      | ret => exact qr s'
      | exit i =>
        by_cases r0 : i = 0
        · subst r0; exact q0 s'
        simp only [Ex.on, beq_false_of_ne r0, cond_false]
    show o_slices_Compact_Message_L2 P T D N s.1 s.2 (fun (e : Ex) (s' : St) => Ex.on e (iterK (fun s k => o_slices_Compact_Message_L2 P T D N s.1 s.2 k) n s' A) (fun i => A (.exit i) s') (A .ret s')) = _
    rw [hk]
    exact f_slices_Compact_Message_b2_eq P T D N (f_slices_Compact_Message_L2 P T D N x0 xr n) x0 xr (fun i s => A (.exit i) s) (fun s => A .ret s) s.1 s.2
theorem f_slices_Compact_Message_old_eq (P : Program) (T : Tab) (D : DTab) (N : Nat) {β : Type} (K : AV → Hp → Option β) (a0 : AV) (h : Hp) : o_slices_Compact_Message P T D N K a0 h = f_slices_Compact_Message P T D N K a0 h := by
  have eL2 : (fun s : St => iterK (fun s k => o_slices_Compact_Message_L2 P T D N s.1 s.2 k) N s (o_slices_Compact_Message_aL2 P T D N K)) = (fun s : St => f_slices_Compact_Message_L2 P T D N (fun w33_0 h => f_slices_Compact_Message_j1 P T D N K w33_0 h) (fun w34_2 h => K w34_2 h) N (s.1 0) (s.1 3) s.2) := funext fun s => f_slices_Compact_Message_L2_eq P T D N (o_slices_Compact_Message_aL2 P T D N K) (fun w33_0 h => f_slices_Compact_Message_j1 P T D N K w33_0 h) (fun w34_2 h => K w34_2 h) (fun s => rfl) (fun s => rfl) N s
  show o_slices_Compact_Message_G P T D N (fun s => iterK (fun s k => o_slices_Compact_Message_L2 P T D N s.1 s.2 k) N s (o_slices_Compact_Message_aL2 P T D N K)) K a0 h = _
  rw [eL2]
  kernel_rfl
theorem o_slices_Compact_Message_run (T : Tab) (D : DTab) (N : Nat) {β : Type} (K : AV → Hp → Option β) (a0 : AV) (h : Hp) : runK Try.prog T D N [0, 2, 3, 4, 5, 8, 13, 25, 32, 44] Try.f64 K [a0] h = o_slices_Compact_Message Try.prog T D N K a0 h := by kernel_rfl
theorem f_slices_Compact_Message_run (T : Tab) (D : DTab) (N : Nat) {β : Type} (K : AV → Hp → Option β) (a0 : AV) (h : Hp) : runK Try.prog T D N [0, 2, 3, 4, 5, 8, 13, 25, 32, 44] Try.f64 K [a0] h = f_slices_Compact_Message Try.prog T D N K a0 h := (o_slices_Compact_Message_run T D N K a0 h).trans (f_slices_Compact_Message_old_eq Try.prog T D N K a0 h)
noncomputable def o_slices_IndexFunc_Message_j1 (P : Program) (T : Tab) (D : DTab) (N : Nat) {β : Type} (K : AV → Hp → Option β) (t : Tm) (h : Hp) : Option β :=
K (.s (.int .i64 (-1))) h
noncomputable def o_slices_IndexFunc_Message_L2 (P : Program) (T : Tab) (D : DTab) (N : Nat) {β : Type} (t : Tm) (h : Hp) (k : Ex → St → Option β) : Option β :=
arithK .lss (t 8) (t 7) fun x2 =>
condK x2 (
iaK 7 (t 0) (t 8) fun x3 =>
ldK 7 true x3 h fun x4 =>
callVK T (t 1) [x4] h fun x5 h6 =>
condK x5 (
k .ret ((upd (upd (upd (upd t 9 x2) 5 (t 8)) 16 x5) 4 (t 8)), h6)) (
arithK .add (t 8) (.s (.int .i64 1)) fun x7 =>
k .normal ((upd (upd (upd (upd t 9 x2) 5 (t 8)) 16 x5) 8 x7), h6))) (
k (.exit 0) ((upd t 9 x2), h))
noncomputable def o_slices_IndexFunc_Message_aL2 (P : Program) (T : Tab) (D : DTab) (N : Nat) {β : Type} (K : AV → Hp → Option β) (e : Ex) (s : St) : Option β :=
  e.on ((o_slices_IndexFunc_Message_j1 P T D N K s.1 s.2))
  (fun i => bif i == 0 then ((o_slices_IndexFunc_Message_j1 P T D N K s.1 s.2)) else (none))
  (K (s.1 4) s.2)
noncomputable def o_slices_IndexFunc_Message_G (P : Program) (T : Tab) (D : DTab) (N : Nat) {β : Type} (cL2 : St → Option β) (K : AV → Hp → Option β) (a0 : AV) (a1 : AV) (h : Hp) :  Option β :=
lenK a0 fun x1 =>
cL2 ((upd (upd (upd (tm0 [a0, a1]) 4 (.s (.int .i64 0))) 7 x1) 8 (.s (.int .i64 0))), h)
noncomputable def o_slices_IndexFunc_Message (P : Program) (T : Tab) (D : DTab) (N : Nat) {β : Type} (K : AV → Hp → Option β) (a0 : AV) (a1 : AV) (h : Hp) : Option β := o_slices_IndexFunc_Message_G P T D N (fun s => iterK (fun s k => o_slices_IndexFunc_Message_L2 P T D N s.1 s.2 k) N s (o_slices_IndexFunc_Message_aL2 P T D N K)) K a0 a1 h
noncomputable def f_slices_IndexFunc_Message_j1 (P : Program) (T : Tab) (D : DTab) (N : Nat) {β : Type} (K : AV → Hp → Option β) (h : Hp) : Option β :=
K (.s (.int .i64 (-1))) h
noncomputable def f_slices_IndexFunc_Message_b2 (P : Program) (T : Tab) (D : DTab) (N : Nat) {β : Type} (xn : AV → AV → AV → AV → Hp → Option β) (x0 : Hp → Option β) (xr : AV → Hp → Option β) (v0 : AV) (v1 : AV) (v7 : AV) (v8 : AV) (h : Hp) : Option β :=
arithK .lss v8 v7 fun x2 =>
condK x2 (
iaK 7 v0 v8 fun x3 =>
ldK 7 true x3 h fun x4 =>
callVK T v1 [x4] h fun x5 h6 =>
condK x5 (
xr v8 h6) (
arithK .add v8 (.s (.int .i64 1)) fun x7 =>
xn v0 v1 v7 x7 h6)) (
x0 h)
noncomputable def f_slices_IndexFunc_Message_L2 (P : Program) (T : Tab) (D : DTab) (N : Nat) {β : Type} (x0 : Hp → Option β) (xr : AV → Hp → Option β) : Nat → AV → AV → AV → AV → Hp → Option β
  | 0 => fun _ _ _ _ _ => none
  | n + 1 => fun v0 v1 v7 v8 h => f_slices_IndexFunc_Message_b2 P T D N (f_slices_IndexFunc_Message_L2 P T D N x0 xr n) x0 xr v0 v1 v7 v8 h
noncomputable def f_slices_IndexFunc_Message (P : Program) (T : Tab) (D : DTab) (N : Nat) {β : Type} (K : AV → Hp → Option β) (a0 : AV) (a1 : AV) (h : Hp) : Option β :=
lenK a0 fun x1 =>
f_slices_IndexFunc_Message_L2 P T D N (fun h => f_slices_IndexFunc_Message_j1 P T D N K h) (fun w9_4 h => K w9_4 h) N a0 a1 x1 (.s (.int .i64 0)) h
theorem f_slices_IndexFunc_Message_b2_eq (P : Program) (T : Tab) (D : DTab) (N : Nat) {β : Type} (xn : AV → AV → AV → AV → Hp → Option β) (x0 : Hp → Option β) (xr : AV → Hp → Option β) (xd : Nat → St → Option β) (xq : St → Option β) (t : Tm) (h : Hp) : o_slices_IndexFunc_Message_L2 P T D N t h (fun (e : Ex) (s : St) => e.on (xn (s.1 0) (s.1 1) (s.1 7) (s.1 8) s.2) (fun i => (bif i == 0 then x0 s.2 else (xd i s))) (xr (s.1 4) s.2)) = f_slices_IndexFunc_Message_b2 P T D N xn x0 xr (t 0) (t 1) (t 7) (t 8) h := by kernel_rfl
theorem f_slices_IndexFunc_Message_L2_eq (P : Program) (T : Tab) (D : DTab) (N : Nat) {β : Type} (A : Ex → St → Option β) (x0 : Hp → Option β) (xr : AV → Hp → Option β) (q0 : ∀ s, A (.exit 0) s = x0 s.2) (qr : ∀ s, A .ret s = xr (s.1 4) s.2) : ∀ (n : Nat) (s : St), iterK (fun s k => o_slices_IndexFunc_Message_L2 P T D N s.1 s.2 k) n s A = f_slices_IndexFunc_Message_L2 P T D N x0 xr n (s.1 0) (s.1 1) (s.1 7) (s.1 8) s.2 := by
  intro n
  induction n with
  | zero => intro s; rfl
  | succ n ih =>
    intro s
    have hk : (fun (e : Ex) (s' : St) => Ex.on e (iterK (fun s k => o_slices_IndexFunc_Message_L2 P T D N s.1 s.2 k) n s' A) (fun i => A (.exit i) s') (A .ret s')) = (fun (e : Ex) (s : St) => e.on ((f_slices_IndexFunc_Message_L2 P T D N x0 xr n) (s.1 0) (s.1 1) (s.1 7) (s.1 8) s.2) (fun i => (bif i == 0 then x0 s.2 else (A (.exit i) s))) (xr (s.1 4) s.2)) := by
      funext e s'
      cases e with
      | normal => exact ih s'
      | ret => exact qr s'
      | exit i =>
        by_cases r0 : i = 0
        · subst r0; exact q0 s'
        simp only [Ex.on, beq_false_of_ne r0, cond_false]
    show o_slices_IndexFunc_Message_L2 P T D N s.1 s.2 (fun (e : Ex) (s' : St) => Ex.on e (iterK (fun s k => o_slices_IndexFunc_Message_L2 P T D N s.1 s.2 k) n s' A) (fun i => A (.exit i) s') (A .ret s')) = _
    rw [hk]
    exact f_slices_IndexFunc_Message_b2_eq P T D N (f_slices_IndexFunc_Message_L2 P T D N x0 xr n) x0 xr (fun i s => A (.exit i) s) (fun s => A .ret s) s.1 s.2
theorem f_slices_IndexFunc_Message_old_eq (P : Program) (T : Tab) (D : DTab) (N : Nat) {β : Type} (K : AV → Hp → Option β) (a0 : AV) (a1 : AV) (h : Hp) : o_slices_IndexFunc_Message P T D N K a0 a1 h = f_slices_IndexFunc_Message P T D N K a0 a1 h := by
  have eL2 : (fun s : St => iterK (fun s k => o_slices_IndexFunc_Message_L2 P T D N s.1 s.2 k) N s (o_slices_IndexFunc_Message_aL2 P T D N K)) = (fun s : St => f_slices_IndexFunc_Message_L2 P T D N (fun h => f_slices_IndexFunc_Message_j1 P T D N K h) (fun w9_4 h => K w9_4 h) N (s.1 0) (s.1 1) (s.1 7) (s.1 8) s.2) := funext fun s => f_slices_IndexFunc_Message_L2_eq P T D N (o_slices_IndexFunc_Message_aL2 P T D N K) (fun h => f_slices_IndexFunc_Message_j1 P T D N K h) (fun w9_4 h => K w9_4 h) (fun s => rfl) (fun s => rfl) N s
  show o_slices_IndexFunc_Message_G P T D N (fun s => iterK (fun s k => o_slices_IndexFunc_Message_L2 P T D N s.1 s.2 k) N s (o_slices_IndexFunc_Message_aL2 P T D N K)) K a0 a1 h = _
  rw [eL2]
  kernel_rfl
theorem o_slices_IndexFunc_Message_run (T : Tab) (D : DTab) (N : Nat) {β : Type} (K : AV → Hp → Option β) (a0 : AV) (a1 : AV) (h : Hp) : runK Try.prog T D N [0, 1, 4, 5, 7, 8, 9, 16] Try.f65 K [a0, a1] h = o_slices_IndexFunc_Message Try.prog T D N K a0 a1 h := by kernel_rfl
theorem f_slices_IndexFunc_Message_run (T : Tab) (D : DTab) (N : Nat) {β : Type} (K : AV → Hp → Option β) (a0 : AV) (a1 : AV) (h : Hp) : runK Try.prog T D N [0, 1, 4, 5, 7, 8, 9, 16] Try.f65 K [a0, a1] h = f_slices_IndexFunc_Message Try.prog T D N K a0 a1 h := (o_slices_IndexFunc_Message_run T D N K a0 a1 h).trans (f_slices_IndexFunc_Message_old_eq Try.prog T D N K a0 a1 h)
noncomputable def f_document_node (P : Program) (T : Tab) (D : DTab) (N : Nat) {β : Type} (K : AV → Hp → Option β) (a0 : AV) (h : Hp) : Option β :=
arithK .geq a0 (.s (.int .i64 1)) fun x1 =>
grpK true x1 h (fun k2 =>
arithK .leq a0 (.s (.int .i64 99)) fun x3 =>
k2 x3 h) fun x4 h5 =>
K x4 h5
theorem f_document_node_run (T : Tab) (D : DTab) (N : Nat) {β : Type} (K : AV → Hp → Option β) (a0 : AV) (h : Hp) : runK Try.prog T D N [0, 2] Try.f67 K [a0] h = f_document_node Try.prog T D N K a0 h := by kernel_rfl
noncomputable def f_ref40_Check_j1 (P : Program) (T : Tab) (D : DTab) (N : Nat) {β : Type} (K : AV → Hp → Option β) (v3 : AV) (h : Hp) : Option β :=
notK v3 fun x51 =>
condK x51 (
K (.s (.int .i64 1)) h) (
K (.s (.int .i64 0)) h)
noncomputable def f_ref40_Check_j2 (P : Program) (T : Tab) (D : DTab) (N : Nat) {β : Type} (K : AV → Hp → Option β) (v3 : AV) (h : Hp) : Option β :=
f_ref40_Check_j1 P T D N K v3 h
noncomputable def f_ref40_Check (P : Program) (T : Tab) (D : DTab) (N : Nat) {β : Type} (K : AV → Hp → Option β) (a0 : AV) (h : Hp) : Option β :=
effK (boxE 7 a0 (List.length h)) h fun x1 h2 =>
faK 0 x1 fun x3 =>
ldK 1 false x3 h2 fun x4 =>
arithK .lss x4 (.s (.int .i64 1)) fun x5 =>
grpK false x5 h2 (fun k6 =>
faK 0 x1 fun x7 =>
ldK 1 false x7 h2 fun x8 =>
arithK .gtr x8 (.s (.int .i64 1073741824)) fun x9 =>
k6 x9 h2) fun x10 h11 =>
grpK false x10 h11 (fun k12 =>
faK 1 x1 fun x13 =>
ldK 1 false x13 h11 fun x14 =>
arithK .lss x14 (.s (.int .i64 1)) fun x15 =>
k12 x15 h11) fun x16 h17 =>
grpK false x16 h17 (fun k18 =>
faK 1 x1 fun x19 =>
ldK 1 false x19 h17 fun x20 =>
arithK .gtr x20 (.s (.int .i64 5)) fun x21 =>
k18 x21 h17) fun x22 h23 =>
grpK false x22 h23 (fun k24 =>
faK 3 x1 fun x25 =>
ldK 1 false x25 h23 fun x26 =>
arithK .lss x26 (.s (.int .i64 0)) fun x27 =>
k24 x27 h23) fun x28 h29 =>
grpK false x28 h29 (fun k30 =>
faK 3 x1 fun x31 =>
ldK 1 false x31 h29 fun x32 =>
arithK .gtr x32 (.s (.int .i64 100000)) fun x33 =>
k30 x33 h29) fun x34 h35 =>
condK x34 (
K (.s (.int .i64 2)) h35) (
faK 2 x1 fun x36 =>
ldK 1 false x36 h35 fun x37 =>
eqK P false 3 x37 (.s (.int .i64 0)) h35 fun x38 =>
grpK true x38 h35 (fun k39 =>
faK 4 x1 fun x40 =>
ldK 1 false x40 h35 fun x41 =>
eqK P false 3 x41 (.s (.int .i64 0)) h35 fun x42 =>
k39 x42 h35) fun x43 h44 =>
grpK true x43 h44 (fun k45 =>
faK 5 x1 fun x46 =>
ldK 1 false x46 h44 fun x47 =>
eqK P false 3 x47 (.s (.int .i64 0)) h44 fun x48 =>
k45 x48 h44) fun x49 h50 =>
faK 1 x1 fun x52 =>
ldK 1 false x52 h50 fun x53 =>
eqK P false 3 x53 (.s (.int .i64 1)) h50 fun x54 =>
condK x54 (
faK 2 x1 fun x55 =>
ldK 1 false x55 h50 fun x56 =>
eqK P false 3 x56 (.s (.int .i64 0)) h50 fun x57 =>
grpK true x57 h50 (fun k58 =>
faK 4 x1 fun x59 =>
ldK 1 false x59 h50 fun x60 =>
callK (T 51) [x60] h50 fun x61 h62 =>
k58 x61 h62) fun x63 h64 =>
grpK true x63 h64 (fun k65 =>
faK 5 x1 fun x66 =>
ldK 1 false x66 h64 fun x67 =>
callK (T 51) [x67] h64 fun x68 h69 =>
k65 x68 h69) fun x70 h71 =>
grpK true x70 h71 (fun k72 =>
faK 4 x1 fun x73 =>
ldK 1 false x73 h71 fun x74 =>
faK 5 x1 fun x75 =>
ldK 1 false x75 h71 fun x76 =>
eqK P true 3 x74 x76 h71 fun x77 =>
k72 x77 h71) fun x78 h79 =>
grpK true x78 h79 (fun k80 =>
faK 6 x1 fun x81 =>
ldK 1 false x81 h79 fun x82 =>
arithK .geq x82 (.s (.int .i64 1)) fun x83 =>
k80 x83 h79) fun x84 h85 =>
grpK true x84 h85 (fun k86 =>
faK 6 x1 fun x87 =>
ldK 1 false x87 h85 fun x88 =>
arithK .leq x88 (.s (.int .i64 10737418240000)) fun x89 =>
k86 x89 h85) fun x90 h91 =>
f_ref40_Check_j2 P T D N K x90 h91) (
eqK P false 3 x53 (.s (.int .i64 2)) h50 fun x92 =>
condK x92 (
faK 2 x1 fun x93 =>
ldK 1 false x93 h50 fun x94 =>
arithK .geq x94 (.s (.int .i64 1)) fun x95 =>
grpK true x95 h50 (fun k96 =>
faK 2 x1 fun x97 =>
ldK 1 false x97 h50 fun x98 =>
arithK .leq x98 (.s (.int .i64 64)) fun x99 =>
k96 x99 h50) fun x100 h101 =>
grpK true x100 h101 (fun k102 =>
faK 4 x1 fun x103 =>
ldK 1 false x103 h101 fun x104 =>
eqK P false 3 x104 (.s (.int .i64 0)) h101 fun x105 =>
k102 x105 h101) fun x106 h107 =>
grpK true x106 h107 (fun k108 =>
faK 5 x1 fun x109 =>
ldK 1 false x109 h107 fun x110 =>
callK (T 51) [x110] h107 fun x111 h112 =>
k108 x111 h112) fun x113 h114 =>
grpK true x113 h114 (fun k115 =>
faK 6 x1 fun x116 =>
ldK 1 false x116 h114 fun x117 =>
eqK P false 3 x117 (.s (.int .i64 0)) h114 fun x118 =>
k115 x118 h114) fun x119 h120 =>
f_ref40_Check_j2 P T D N K x119 h120) (
eqK P false 3 x53 (.s (.int .i64 3)) h50 fun x121 =>
condK x121 (
grpK true x49 h50 (fun k122 =>
faK 6 x1 fun x123 =>
ldK 1 false x123 h50 fun x124 =>
arithK .geq x124 (.s (.int .i64 0)) fun x125 =>
k122 x125 h50) fun x126 h127 =>
grpK true x126 h127 (fun k128 =>
faK 6 x1 fun x129 =>
ldK 1 false x129 h127 fun x130 =>
arithK .leq x130 (.s (.int .i64 10737418240000)) fun x131 =>
k128 x131 h127) fun x132 h133 =>
f_ref40_Check_j2 P T D N K x132 h133) (
grpK true x49 h50 (fun k134 =>
faK 6 x1 fun x135 =>
ldK 1 false x135 h50 fun x136 =>
eqK P false 3 x136 (.s (.int .i64 0)) h50 fun x137 =>
k134 x137 h50) fun x138 h139 =>
f_ref40_Check_j2 P T D N K x138 h139))))
theorem f_ref40_Check_run (T : Tab) (D : DTab) (N : Nat) {β : Type} (K : AV → Hp → Option β) (a0 : AV) (h : Hp) : runK Try.prog T D N [0, 1, 2, 3, 31, 46, 53, 85, 110, 124] Try.f68 K [a0] h = f_ref40_Check Try.prog T D N K a0 h := by kernel_rfl
noncomputable def f_network_deliveries (P : Program) (T : Tab) (D : DTab) (N : Nat) {β : Type} (K : AV → Hp → Option β) (a0 : AV) (a1 : AV) (h : Hp) : Option β :=
effK (boxE 1 a0 (List.length h)) h fun x1 h2 =>
effK (boxE 1 a1 (List.length h2)) h2 fun x3 h4 =>
K (.fn 78 [x3, x1]) h4
theorem f_network_deliveries_run (T : Tab) (D : DTab) (N : Nat) {β : Type} (K : AV → Hp → Option β) (a0 : AV) (a1 : AV) (h : Hp) : runK Try.prog T D N [0, 1, 2, 3, 4] Try.f69 K [a0, a1] h = f_network_deliveries Try.prog T D N K a0 a1 h := by kernel_rfl
noncomputable def f_slices_ContainsFunc_int (P : Program) (T : Tab) (D : DTab) (N : Nat) {β : Type} (K : AV → Hp → Option β) (a0 : AV) (a1 : AV) (h : Hp) : Option β :=
callK (T 80) [a0, a1] h fun x1 h2 =>
arithK .geq x1 (.s (.int .i64 0)) fun x3 =>
K x3 h2
theorem f_slices_ContainsFunc_int_run (T : Tab) (D : DTab) (N : Nat) {β : Type} (K : AV → Hp → Option β) (a0 : AV) (a1 : AV) (h : Hp) : runK Try.prog T D N [0, 1, 4] Try.f72 K [a0, a1] h = f_slices_ContainsFunc_int Try.prog T D N K a0 a1 h := by kernel_rfl
noncomputable def f_network_asked_1 (P : Program) (T : Tab) (D : DTab) (N : Nat) {β : Type} (K : AV → Hp → Option β) (a0 : AV) (a1 : AV) (h : Hp) : Option β :=
arithK .lss a0 (.s (.int .i64 0)) fun x1 =>
grpK false x1 h (fun k2 =>
ldK 1 false a1 h fun x3 =>
lenK x3 fun x4 =>
arithK .geq a0 x4 fun x5 =>
k2 x5 h) fun x6 h7 =>
K x6 h7
theorem f_network_asked_1_run (T : Tab) (D : DTab) (N : Nat) {β : Type} (K : AV → Hp → Option β) (a0 : AV) (a1 : AV) (h : Hp) : runK Try.prog T D N [0, 1, 3] Try.f73 K [a0, a1] h = f_network_asked_1 Try.prog T D N K a0 a1 h := by kernel_rfl
noncomputable def o_cmp_Or_int_j1 (P : Program) (T : Tab) (D : DTab) (N : Nat) {β : Type} (K : AV → Hp → Option β) (t : Tm) (h : Hp) : Option β :=
K (t 3) h
noncomputable def o_cmp_Or_int_L2 (P : Program) (T : Tab) (D : DTab) (N : Nat) {β : Type} (t : Tm) (h : Hp) (k : Ex → St → Option β) : Option β :=
arithK .lss (t 8) (t 7) fun x2 =>
condK x2 (
iaK 1 (t 6) (t 8) fun x3 =>
ldK 1 false x3 h fun x4 =>
eqK P true 3 x4 (t 3) h fun x5 =>
condK x5 (
k .ret ((upd (upd (upd (upd t 9 x2) 5 x4) 14 x5) 2 x4), h)) (
arithK .add (t 8) (.s (.int .i64 1)) fun x6 =>
k .normal ((upd (upd (upd (upd t 9 x2) 5 x4) 14 x5) 8 x6), h))) (
k (.exit 0) ((upd t 9 x2), h))
noncomputable def o_cmp_Or_int_aL2 (P : Program) (T : Tab) (D : DTab) (N : Nat) {β : Type} (K : AV → Hp → Option β) (e : Ex) (s : St) : Option β :=
  e.on ((o_cmp_Or_int_j1 P T D N K s.1 s.2))
  (fun i => bif i == 0 then ((o_cmp_Or_int_j1 P T D N K s.1 s.2)) else (none))
  (K (s.1 2) s.2)
noncomputable def o_cmp_Or_int_G (P : Program) (T : Tab) (D : DTab) (N : Nat) {β : Type} (cL2 : St → Option β) (K : AV → Hp → Option β) (a0 : AV) (h : Hp) :  Option β :=
lenK a0 fun x1 =>
cL2 ((upd (upd (upd (upd (upd (tm0 [a0]) 2 (.s (.int .i64 0))) 3 (.s (.int .i64 0))) 6 a0) 7 x1) 8 (.s (.int .i64 0))), h)
noncomputable def o_cmp_Or_int (P : Program) (T : Tab) (D : DTab) (N : Nat) {β : Type} (K : AV → Hp → Option β) (a0 : AV) (h : Hp) : Option β := o_cmp_Or_int_G P T D N (fun s => iterK (fun s k => o_cmp_Or_int_L2 P T D N s.1 s.2 k) N s (o_cmp_Or_int_aL2 P T D N K)) K a0 h
noncomputable def f_cmp_Or_int_j1 (P : Program) (T : Tab) (D : DTab) (N : Nat) {β : Type} (K : AV → Hp → Option β) (v3 : AV) (h : Hp) : Option β :=
K v3 h
noncomputable def f_cmp_Or_int_b2 (P : Program) (T : Tab) (D : DTab) (N : Nat) {β : Type} (xn : AV → AV → AV → AV → Hp → Option β) (x0 : AV → Hp → Option β) (xr : AV → Hp → Option β) (v3 : AV) (v6 : AV) (v7 : AV) (v8 : AV) (h : Hp) : Option β :=
arithK .lss v8 v7 fun x2 =>
condK x2 (
iaK 1 v6 v8 fun x3 =>
ldK 1 false x3 h fun x4 =>
eqK P true 3 x4 v3 h fun x5 =>
condK x5 (
xr x4 h) (
arithK .add v8 (.s (.int .i64 1)) fun x6 =>
xn v3 v6 v7 x6 h)) (
x0 v3 h)
noncomputable def f_cmp_Or_int_L2 (P : Program) (T : Tab) (D : DTab) (N : Nat) {β : Type} (x0 : AV → Hp → Option β) (xr : AV → Hp → Option β) : Nat → AV → AV → AV → AV → Hp → Option β
  | 0 => fun _ _ _ _ _ => none
  | n + 1 => fun v3 v6 v7 v8 h => f_cmp_Or_int_b2 P T D N (f_cmp_Or_int_L2 P T D N x0 xr n) x0 xr v3 v6 v7 v8 h
noncomputable def f_cmp_Or_int (P : Program) (T : Tab) (D : DTab) (N : Nat) {β : Type} (K : AV → Hp → Option β) (a0 : AV) (h : Hp) : Option β :=
lenK a0 fun x1 =>
f_cmp_Or_int_L2 P T D N (fun w7_3 h => f_cmp_Or_int_j1 P T D N K w7_3 h) (fun w8_2 h => K w8_2 h) N (.s (.int .i64 0)) a0 x1 (.s (.int .i64 0)) h
theorem f_cmp_Or_int_b2_eq (P : Program) (T : Tab) (D : DTab) (N : Nat) {β : Type} (xn : AV → AV → AV → AV → Hp → Option β) (x0 : AV → Hp → Option β) (xr : AV → Hp → Option β) (xd : Nat → St → Option β) (xq : St → Option β) (t : Tm) (h : Hp) : o_cmp_Or_int_L2 P T D N t h (fun (e : Ex) (s : St) => e.on (xn (s.1 3) (s.1 6) (s.1 7) (s.1 8) s.2) (fun i => (bif i == 0 then x0 (s.1 3) s.2 else (xd i s))) (xr (s.1 2) s.2)) = f_cmp_Or_int_b2 P T D N xn x0 xr (t 3) (t 6) (t 7) (t 8) h := by kernel_rfl
theorem f_cmp_Or_int_L2_eq (P : Program) (T : Tab) (D : DTab) (N : Nat) {β : Type} (A : Ex → St → Option β) (x0 : AV → Hp → Option β) (xr : AV → Hp → Option β) (q0 : ∀ s, A (.exit 0) s = x0 (s.1 3) s.2) (qr : ∀ s, A .ret s = xr (s.1 2) s.2) : ∀ (n : Nat) (s : St), iterK (fun s k => o_cmp_Or_int_L2 P T D N s.1 s.2 k) n s A = f_cmp_Or_int_L2 P T D N x0 xr n (s.1 3) (s.1 6) (s.1 7) (s.1 8) s.2 := by
  intro n
  induction n with
  | zero => intro s; rfl
  | succ n ih =>
    intro s
    have hk : (fun (e : Ex) (s' : St) => Ex.on e (iterK (fun s k => o_cmp_Or_int_L2 P T D N s.1 s.2 k) n s' A) (fun i => A (.exit i) s') (A .ret s')) = (fun (e : Ex) (s : St) => e.on ((f_cmp_Or_int_L2 P T D N x0 xr n) (s.1 3) (s.1 6) (s.1 7) (s.1 8) s.2) (fun i => (bif i == 0 then x0 (s.1 3) s.2 else (A (.exit i) s))) (xr (s.1 2) s.2)) := by
      funext e s'
      cases e with
      | normal => exact ih s'
      | ret => exact qr s'
      | exit i =>
        by_cases r0 : i = 0
        · subst r0; exact q0 s'
        simp only [Ex.on, beq_false_of_ne r0, cond_false]
    show o_cmp_Or_int_L2 P T D N s.1 s.2 (fun (e : Ex) (s' : St) => Ex.on e (iterK (fun s k => o_cmp_Or_int_L2 P T D N s.1 s.2 k) n s' A) (fun i => A (.exit i) s') (A .ret s')) = _
    rw [hk]
    exact f_cmp_Or_int_b2_eq P T D N (f_cmp_Or_int_L2 P T D N x0 xr n) x0 xr (fun i s => A (.exit i) s) (fun s => A .ret s) s.1 s.2
theorem f_cmp_Or_int_old_eq (P : Program) (T : Tab) (D : DTab) (N : Nat) {β : Type} (K : AV → Hp → Option β) (a0 : AV) (h : Hp) : o_cmp_Or_int P T D N K a0 h = f_cmp_Or_int P T D N K a0 h := by
  have eL2 : (fun s : St => iterK (fun s k => o_cmp_Or_int_L2 P T D N s.1 s.2 k) N s (o_cmp_Or_int_aL2 P T D N K)) = (fun s : St => f_cmp_Or_int_L2 P T D N (fun w7_3 h => f_cmp_Or_int_j1 P T D N K w7_3 h) (fun w8_2 h => K w8_2 h) N (s.1 3) (s.1 6) (s.1 7) (s.1 8) s.2) := funext fun s => f_cmp_Or_int_L2_eq P T D N (o_cmp_Or_int_aL2 P T D N K) (fun w7_3 h => f_cmp_Or_int_j1 P T D N K w7_3 h) (fun w8_2 h => K w8_2 h) (fun s => rfl) (fun s => rfl) N s
  show o_cmp_Or_int_G P T D N (fun s => iterK (fun s k => o_cmp_Or_int_L2 P T D N s.1 s.2 k) N s (o_cmp_Or_int_aL2 P T D N K)) K a0 h = _
  rw [eL2]
  kernel_rfl
theorem o_cmp_Or_int_run (T : Tab) (D : DTab) (N : Nat) {β : Type} (K : AV → Hp → Option β) (a0 : AV) (h : Hp) : runK Try.prog T D N [0, 2, 3, 5, 6, 7, 8, 9, 14] Try.f76 K [a0] h = o_cmp_Or_int Try.prog T D N K a0 h := by kernel_rfl
theorem f_cmp_Or_int_run (T : Tab) (D : DTab) (N : Nat) {β : Type} (K : AV → Hp → Option β) (a0 : AV) (h : Hp) : runK Try.prog T D N [0, 2, 3, 5, 6, 7, 8, 9, 14] Try.f76 K [a0] h = f_cmp_Or_int Try.prog T D N K a0 h := (o_cmp_Or_int_run T D N K a0 h).trans (f_cmp_Or_int_old_eq Try.prog T D N K a0 h)
noncomputable def f_cmp_Compare_int (P : Program) (T : Tab) (D : DTab) (N : Nat) {β : Type} (K : AV → Hp → Option β) (a0 : AV) (a1 : AV) (h : Hp) : Option β :=
callK (T 91) [a0] h fun x1 h2 =>
callK (T 91) [a1] h2 fun x3 h4 =>
condK x1 (
condK x3 (
K (.s (.int .i64 0)) h4) (
K (.s (.int .i64 (-1))) h4)) (
condK x3 (
K (.s (.int .i64 1)) h4) (
arithK .lss a0 a1 fun x5 =>
condK x5 (
K (.s (.int .i64 (-1))) h4) (
arithK .gtr a0 a1 fun x6 =>
condK x6 (
K (.s (.int .i64 1)) h4) (
K (.s (.int .i64 0)) h4))))
theorem f_cmp_Compare_int_run (T : Tab) (D : DTab) (N : Nat) {β : Type} (K : AV → Hp → Option β) (a0 : AV) (a1 : AV) (h : Hp) : runK Try.prog T D N [0, 1, 4, 5, 6, 11, 12, 13, 16, 19] Try.f77 K [a0, a1] h = f_cmp_Compare_int Try.prog T D N K a0 a1 h := by kernel_rfl
noncomputable def o_network_deliveries_1_j1 (P : Program) (T : Tab) (D : DTab) (N : Nat) {β : Type} (K : AV → Hp → Option β) (t : Tm) (h : Hp) : Option β :=
K (.tup []) h
noncomputable def o_network_deliveries_1_L2 (P : Program) (T : Tab) (D : DTab) (N : Nat) {β : Type} (t : Tm) (h : Hp) (k : Ex → St → Option β) : Option β :=
arithK .lss (t 8) (t 7) fun x3 =>
condK x3 (
iaK 1 (t 6) (t 8) fun x4 =>
ldK 1 false x4 h fun x5 =>
ldK 1 false (t 2) h fun x6 =>
iaK 10 x6 x5 fun x7 =>
ldK 10 true x7 h fun x8 =>
callVK T (t 0) [x5, x8] h fun x9 h10 =>
notK x9 fun x11 =>
condK x11 (
k .ret ((upd (upd (upd t 9 x3) 5 x5) 19 x11), h10)) (
arithK .add (t 8) (.s (.int .i64 1)) fun x12 =>
k .normal ((upd (upd (upd (upd t 9 x3) 5 x5) 19 x11) 8 x12), h10))) (
k (.exit 0) ((upd t 9 x3), h))
noncomputable def o_network_deliveries_1_aL2 (P : Program) (T : Tab) (D : DTab) (N : Nat) {β : Type} (K : AV → Hp → Option β) (e : Ex) (s : St) : Option β :=
  e.on ((o_network_deliveries_1_j1 P T D N K s.1 s.2))
  (fun i => bif i == 0 then ((o_network_deliveries_1_j1 P T D N K s.1 s.2)) else (none))
  (K (.tup []) s.2)
noncomputable def o_network_deliveries_1_G (P : Program) (T : Tab) (D : DTab) (N : Nat) {β : Type} (cL2 : St → Option β) (K : AV → Hp → Option β) (a0 : AV) (a1 : AV) (a2 : AV) (h : Hp) :  Option β :=
ldK 1 false a1 h fun x1 =>
lenK x1 fun x2 =>
cL2 ((upd (upd (upd (tm0 [a0, a1, a2]) 6 x1) 7 x2) 8 (.s (.int .i64 0))), h)
noncomputable def o_network_deliveries_1 (P : Program) (T : Tab) (D : DTab) (N : Nat) {β : Type} (K : AV → Hp → Option β) (a0 : AV) (a1 : AV) (a2 : AV) (h : Hp) : Option β := o_network_deliveries_1_G P T D N (fun s => iterK (fun s k => o_network_deliveries_1_L2 P T D N s.1 s.2 k) N s (o_network_deliveries_1_aL2 P T D N K)) K a0 a1 a2 h
noncomputable def f_network_deliveries_1_j1 (P : Program) (T : Tab) (D : DTab) (N : Nat) {β : Type} (K : AV → Hp → Option β) (h : Hp) : Option β :=
K (.tup []) h
noncomputable def f_network_deliveries_1_b2 (P : Program) (T : Tab) (D : DTab) (N : Nat) {β : Type} (xn : AV → AV → AV → AV → AV → Hp → Option β) (x0 : Hp → Option β) (xr : Hp → Option β) (v0 : AV) (v2 : AV) (v6 : AV) (v7 : AV) (v8 : AV) (h : Hp) : Option β :=
arithK .lss v8 v7 fun x3 =>
condK x3 (
iaK 1 v6 v8 fun x4 =>
ldK 1 false x4 h fun x5 =>
ldK 1 false v2 h fun x6 =>
iaK 10 x6 x5 fun x7 =>
ldK 10 true x7 h fun x8 =>
callVK T v0 [x5, x8] h fun x9 h10 =>
notK x9 fun x11 =>
condK x11 (
xr h10) (
arithK .add v8 (.s (.int .i64 1)) fun x12 =>
xn v0 v2 v6 v7 x12 h10)) (
x0 h)
noncomputable def f_network_deliveries_1_L2 (P : Program) (T : Tab) (D : DTab) (N : Nat) {β : Type} (x0 : Hp → Option β) (xr : Hp → Option β) : Nat → AV → AV → AV → AV → AV → Hp → Option β
  | 0 => fun _ _ _ _ _ _ => none
  | n + 1 => fun v0 v2 v6 v7 v8 h => f_network_deliveries_1_b2 P T D N (f_network_deliveries_1_L2 P T D N x0 xr n) x0 xr v0 v2 v6 v7 v8 h
noncomputable def f_network_deliveries_1 (P : Program) (T : Tab) (D : DTab) (N : Nat) {β : Type} (K : AV → Hp → Option β) (a0 : AV) (a1 : AV) (a2 : AV) (h : Hp) : Option β :=
ldK 1 false a1 h fun x1 =>
lenK x1 fun x2 =>
f_network_deliveries_1_L2 P T D N (fun h => f_network_deliveries_1_j1 P T D N K h) (fun h => K (.tup []) h) N a0 a2 x1 x2 (.s (.int .i64 0)) h
theorem f_network_deliveries_1_b2_eq (P : Program) (T : Tab) (D : DTab) (N : Nat) {β : Type} (xn : AV → AV → AV → AV → AV → Hp → Option β) (x0 : Hp → Option β) (xr : Hp → Option β) (xd : Nat → St → Option β) (xq : St → Option β) (t : Tm) (h : Hp) : o_network_deliveries_1_L2 P T D N t h (fun (e : Ex) (s : St) => e.on (xn (s.1 0) (s.1 2) (s.1 6) (s.1 7) (s.1 8) s.2) (fun i => (bif i == 0 then x0 s.2 else (xd i s))) (xr s.2)) = f_network_deliveries_1_b2 P T D N xn x0 xr (t 0) (t 2) (t 6) (t 7) (t 8) h := by kernel_rfl
theorem f_network_deliveries_1_L2_eq (P : Program) (T : Tab) (D : DTab) (N : Nat) {β : Type} (A : Ex → St → Option β) (x0 : Hp → Option β) (xr : Hp → Option β) (q0 : ∀ s, A (.exit 0) s = x0 s.2) (qr : ∀ s, A .ret s = xr s.2) : ∀ (n : Nat) (s : St), iterK (fun s k => o_network_deliveries_1_L2 P T D N s.1 s.2 k) n s A = f_network_deliveries_1_L2 P T D N x0 xr n (s.1 0) (s.1 2) (s.1 6) (s.1 7) (s.1 8) s.2 := by
  intro n
  induction n with
  | zero => intro s; rfl
  | succ n ih =>
    intro s
    have hk : (fun (e : Ex) (s' : St) => Ex.on e (iterK (fun s k => o_network_deliveries_1_L2 P T D N s.1 s.2 k) n s' A) (fun i => A (.exit i) s') (A .ret s')) = (fun (e : Ex) (s : St) => e.on ((f_network_deliveries_1_L2 P T D N x0 xr n) (s.1 0) (s.1 2) (s.1 6) (s.1 7) (s.1 8) s.2) (fun i => (bif i == 0 then x0 s.2 else (A (.exit i) s))) (xr s.2)) := by
      funext e s'
      cases e with
      | normal => exact ih s'
      | ret => exact qr s'
      | exit i =>
        by_cases r0 : i = 0
        · subst r0; exact q0 s'
        simp only [Ex.on, beq_false_of_ne r0, cond_false]
    show o_network_deliveries_1_L2 P T D N s.1 s.2 (fun (e : Ex) (s' : St) => Ex.on e (iterK (fun s k => o_network_deliveries_1_L2 P T D N s.1 s.2 k) n s' A) (fun i => A (.exit i) s') (A .ret s')) = _
    rw [hk]
    exact f_network_deliveries_1_b2_eq P T D N (f_network_deliveries_1_L2 P T D N x0 xr n) x0 xr (fun i s => A (.exit i) s) (fun s => A .ret s) s.1 s.2
theorem f_network_deliveries_1_old_eq (P : Program) (T : Tab) (D : DTab) (N : Nat) {β : Type} (K : AV → Hp → Option β) (a0 : AV) (a1 : AV) (a2 : AV) (h : Hp) : o_network_deliveries_1 P T D N K a0 a1 a2 h = f_network_deliveries_1 P T D N K a0 a1 a2 h := by
  have eL2 : (fun s : St => iterK (fun s k => o_network_deliveries_1_L2 P T D N s.1 s.2 k) N s (o_network_deliveries_1_aL2 P T D N K)) = (fun s : St => f_network_deliveries_1_L2 P T D N (fun h => f_network_deliveries_1_j1 P T D N K h) (fun h => K (.tup []) h) N (s.1 0) (s.1 2) (s.1 6) (s.1 7) (s.1 8) s.2) := funext fun s => f_network_deliveries_1_L2_eq P T D N (o_network_deliveries_1_aL2 P T D N K) (fun h => f_network_deliveries_1_j1 P T D N K h) (fun h => K (.tup []) h) (fun s => rfl) (fun s => rfl) N s
  show o_network_deliveries_1_G P T D N (fun s => iterK (fun s k => o_network_deliveries_1_L2 P T D N s.1 s.2 k) N s (o_network_deliveries_1_aL2 P T D N K)) K a0 a1 a2 h = _
  rw [eL2]
  kernel_rfl
theorem o_network_deliveries_1_run (T : Tab) (D : DTab) (N : Nat) {β : Type} (K : AV → Hp → Option β) (a0 : AV) (a1 : AV) (a2 : AV) (h : Hp) : runK Try.prog T D N [0, 1, 2, 5, 6, 7, 8, 9, 19] Try.f78 K [a0, a1, a2] h = o_network_deliveries_1 Try.prog T D N K a0 a1 a2 h := by kernel_rfl
theorem f_network_deliveries_1_run (T : Tab) (D : DTab) (N : Nat) {β : Type} (K : AV → Hp → Option β) (a0 : AV) (a1 : AV) (a2 : AV) (h : Hp) : runK Try.prog T D N [0, 1, 2, 5, 6, 7, 8, 9, 19] Try.f78 K [a0, a1, a2] h = f_network_deliveries_1 Try.prog T D N K a0 a1 a2 h := (o_network_deliveries_1_run T D N K a0 a1 a2 h).trans (f_network_deliveries_1_old_eq Try.prog T D N K a0 a1 a2 h)
noncomputable def o_slices_IndexFunc_int_j1 (P : Program) (T : Tab) (D : DTab) (N : Nat) {β : Type} (K : AV → Hp → Option β) (t : Tm) (h : Hp) : Option β :=
K (.s (.int .i64 (-1))) h
noncomputable def o_slices_IndexFunc_int_L2 (P : Program) (T : Tab) (D : DTab) (N : Nat) {β : Type} (t : Tm) (h : Hp) (k : Ex → St → Option β) : Option β :=
arithK .lss (t 8) (t 7) fun x2 =>
condK x2 (
iaK 1 (t 0) (t 8) fun x3 =>
ldK 1 false x3 h fun x4 =>
callVK T (t 1) [x4] h fun x5 h6 =>
condK x5 (
k .ret ((upd (upd (upd (upd t 9 x2) 5 (t 8)) 16 x5) 4 (t 8)), h6)) (
arithK .add (t 8) (.s (.int .i64 1)) fun x7 =>
k .normal ((upd (upd (upd (upd t 9 x2) 5 (t 8)) 16 x5) 8 x7), h6))) (
k (.exit 0) ((upd t 9 x2), h))
noncomputable def o_slices_IndexFunc_int_aL2 (P : Program) (T : Tab) (D : DTab) (N : Nat) {β : Type} (K : AV → Hp → Option β) (e : Ex) (s : St) : Option β :=
  e.on ((o_slices_IndexFunc_int_j1 P T D N K s.1 s.2))
  (fun i => bif i == 0 then ((o_slices_IndexFunc_int_j1 P T D N K s.1 s.2)) else (none))
  (K (s.1 4) s.2)
noncomputable def o_slices_IndexFunc_int_G (P : Program) (T : Tab) (D : DTab) (N : Nat) {β : Type} (cL2 : St → Option β) (K : AV → Hp → Option β) (a0 : AV) (a1 : AV) (h : Hp) :  Option β :=
lenK a0 fun x1 =>
cL2 ((upd (upd (upd (tm0 [a0, a1]) 4 (.s (.int .i64 0))) 7 x1) 8 (.s (.int .i64 0))), h)
noncomputable def o_slices_IndexFunc_int (P : Program) (T : Tab) (D : DTab) (N : Nat) {β : Type} (K : AV → Hp → Option β) (a0 : AV) (a1 : AV) (h : Hp) : Option β := o_slices_IndexFunc_int_G P T D N (fun s => iterK (fun s k => o_slices_IndexFunc_int_L2 P T D N s.1 s.2 k) N s (o_slices_IndexFunc_int_aL2 P T D N K)) K a0 a1 h
noncomputable def f_slices_IndexFunc_int_j1 (P : Program) (T : Tab) (D : DTab) (N : Nat) {β : Type} (K : AV → Hp → Option β) (h : Hp) : Option β :=
K (.s (.int .i64 (-1))) h
noncomputable def f_slices_IndexFunc_int_b2 (P : Program) (T : Tab) (D : DTab) (N : Nat) {β : Type} (xn : AV → AV → AV → AV → Hp → Option β) (x0 : Hp → Option β) (xr : AV → Hp → Option β) (v0 : AV) (v1 : AV) (v7 : AV) (v8 : AV) (h : Hp) : Option β :=
arithK .lss v8 v7 fun x2 =>
condK x2 (
iaK 1 v0 v8 fun x3 =>
ldK 1 false x3 h fun x4 =>
callVK T v1 [x4] h fun x5 h6 =>
condK x5 (
xr v8 h6) (
arithK .add v8 (.s (.int .i64 1)) fun x7 =>
xn v0 v1 v7 x7 h6)) (
x0 h)
noncomputable def f_slices_IndexFunc_int_L2 (P : Program) (T : Tab) (D : DTab) (N : Nat) {β : Type} (x0 : Hp → Option β) (xr : AV → Hp → Option β) : Nat → AV → AV → AV → AV → Hp → Option β
  | 0 => fun _ _ _ _ _ => none
  | n + 1 => fun v0 v1 v7 v8 h => f_slices_IndexFunc_int_b2 P T D N (f_slices_IndexFunc_int_L2 P T D N x0 xr n) x0 xr v0 v1 v7 v8 h
noncomputable def f_slices_IndexFunc_int (P : Program) (T : Tab) (D : DTab) (N : Nat) {β : Type} (K : AV → Hp → Option β) (a0 : AV) (a1 : AV) (h : Hp) : Option β :=
lenK a0 fun x1 =>
f_slices_IndexFunc_int_L2 P T D N (fun h => f_slices_IndexFunc_int_j1 P T D N K h) (fun w9_4 h => K w9_4 h) N a0 a1 x1 (.s (.int .i64 0)) h
theorem f_slices_IndexFunc_int_b2_eq (P : Program) (T : Tab) (D : DTab) (N : Nat) {β : Type} (xn : AV → AV → AV → AV → Hp → Option β) (x0 : Hp → Option β) (xr : AV → Hp → Option β) (xd : Nat → St → Option β) (xq : St → Option β) (t : Tm) (h : Hp) : o_slices_IndexFunc_int_L2 P T D N t h (fun (e : Ex) (s : St) => e.on (xn (s.1 0) (s.1 1) (s.1 7) (s.1 8) s.2) (fun i => (bif i == 0 then x0 s.2 else (xd i s))) (xr (s.1 4) s.2)) = f_slices_IndexFunc_int_b2 P T D N xn x0 xr (t 0) (t 1) (t 7) (t 8) h := by kernel_rfl
theorem f_slices_IndexFunc_int_L2_eq (P : Program) (T : Tab) (D : DTab) (N : Nat) {β : Type} (A : Ex → St → Option β) (x0 : Hp → Option β) (xr : AV → Hp → Option β) (q0 : ∀ s, A (.exit 0) s = x0 s.2) (qr : ∀ s, A .ret s = xr (s.1 4) s.2) : ∀ (n : Nat) (s : St), iterK (fun s k => o_slices_IndexFunc_int_L2 P T D N s.1 s.2 k) n s A = f_slices_IndexFunc_int_L2 P T D N x0 xr n (s.1 0) (s.1 1) (s.1 7) (s.1 8) s.2 := by
  intro n
  induction n with
  | zero => intro s; rfl
  | succ n ih =>
    intro s
    have hk : (fun (e : Ex) (s' : St) => Ex.on e (iterK (fun s k => o_slices_IndexFunc_int_L2 P T D N s.1 s.2 k) n s' A) (fun i => A (.exit i) s') (A .ret s')) = (fun (e : Ex) (s : St) => e.on ((f_slices_IndexFunc_int_L2 P T D N x0 xr n) (s.1 0) (s.1 1) (s.1 7) (s.1 8) s.2) (fun i => (bif i == 0 then x0 s.2 else (A (.exit i) s))) (xr (s.1 4) s.2)) := by
      funext e s'
      cases e with
      | normal => exact ih s'
      | ret => exact qr s'
      | exit i =>
        by_cases r0 : i = 0
        · subst r0; exact q0 s'
        simp only [Ex.on, beq_false_of_ne r0, cond_false]
    show o_slices_IndexFunc_int_L2 P T D N s.1 s.2 (fun (e : Ex) (s' : St) => Ex.on e (iterK (fun s k => o_slices_IndexFunc_int_L2 P T D N s.1 s.2 k) n s' A) (fun i => A (.exit i) s') (A .ret s')) = _
    rw [hk]
    exact f_slices_IndexFunc_int_b2_eq P T D N (f_slices_IndexFunc_int_L2 P T D N x0 xr n) x0 xr (fun i s => A (.exit i) s) (fun s => A .ret s) s.1 s.2
theorem f_slices_IndexFunc_int_old_eq (P : Program) (T : Tab) (D : DTab) (N : Nat) {β : Type} (K : AV → Hp → Option β) (a0 : AV) (a1 : AV) (h : Hp) : o_slices_IndexFunc_int P T D N K a0 a1 h = f_slices_IndexFunc_int P T D N K a0 a1 h := by
  have eL2 : (fun s : St => iterK (fun s k => o_slices_IndexFunc_int_L2 P T D N s.1 s.2 k) N s (o_slices_IndexFunc_int_aL2 P T D N K)) = (fun s : St => f_slices_IndexFunc_int_L2 P T D N (fun h => f_slices_IndexFunc_int_j1 P T D N K h) (fun w9_4 h => K w9_4 h) N (s.1 0) (s.1 1) (s.1 7) (s.1 8) s.2) := funext fun s => f_slices_IndexFunc_int_L2_eq P T D N (o_slices_IndexFunc_int_aL2 P T D N K) (fun h => f_slices_IndexFunc_int_j1 P T D N K h) (fun w9_4 h => K w9_4 h) (fun s => rfl) (fun s => rfl) N s
  show o_slices_IndexFunc_int_G P T D N (fun s => iterK (fun s k => o_slices_IndexFunc_int_L2 P T D N s.1 s.2 k) N s (o_slices_IndexFunc_int_aL2 P T D N K)) K a0 a1 h = _
  rw [eL2]
  kernel_rfl
theorem o_slices_IndexFunc_int_run (T : Tab) (D : DTab) (N : Nat) {β : Type} (K : AV → Hp → Option β) (a0 : AV) (a1 : AV) (h : Hp) : runK Try.prog T D N [0, 1, 4, 5, 7, 8, 9, 16] Try.f80 K [a0, a1] h = o_slices_IndexFunc_int Try.prog T D N K a0 a1 h := by kernel_rfl
theorem f_slices_IndexFunc_int_run (T : Tab) (D : DTab) (N : Nat) {β : Type} (K : AV → Hp → Option β) (a0 : AV) (a1 : AV) (h : Hp) : runK Try.prog T D N [0, 1, 4, 5, 7, 8, 9, 16] Try.f80 K [a0, a1] h = f_slices_IndexFunc_int Try.prog T D N K a0 a1 h := (o_slices_IndexFunc_int_run T D N K a0 a1 h).trans (f_slices_IndexFunc_int_old_eq Try.prog T D N K a0 a1 h)
noncomputable def f_cmp_isNaN_int (P : Program) (T : Tab) (D : DTab) (N : Nat) {β : Type} (K : AV → Hp → Option β) (a0 : AV) (h : Hp) : Option β :=
eqK P true 3 a0 a0 h fun x1 =>
K x1 h
theorem f_cmp_isNaN_int_run (T : Tab) (D : DTab) (N : Nat) {β : Type} (K : AV → Hp → Option β) (a0 : AV) (h : Hp) : runK Try.prog T D N [0, 2] Try.f91 K [a0] h = f_cmp_isNaN_int Try.prog T D N K a0 h := by kernel_rfl
end Go.AM


namespace Go.AM
open Go.RowKit
set_option linter.unusedVariables false
set_option linter.unusedSimpArgs false
set_option linter.constructorNameAsVariable false
variable {P : Program} {μ μ' : Mu} {h h' h1 : Hp} {w w' : World}
def Near (h h1 : Hp) : Prop := h1.length = h.length ∧ ∀ (id : Nat) (o : AObj), h[id]? = some o → h1[id]? = some o ∨ ∃ sz es es' own nil, o = .arr sz es own nil ∧ h1[id]? = some (.arr sz es' own nil) ∧ es'.length = es.length ∧ ∀ e ∈ es', ∀ c ∈ e, plain c = true
theorem Near.back (n : Near h h1) {id : Nat} {o : AObj} (ho : h1[id]? = some o) : h[id]? = some o ∨ ∃ sz es es' own nil, o = .arr sz es' own nil ∧ h[id]? = some (.arr sz es own nil) ∧ es'.length = es.length ∧ ∀ e ∈ es', ∀ c ∈ e, plain c = true := by
  have hl : id < h.length := by rw [← n.1]; exact (List.getElem?_eq_some_iff.1 ho).1
  have hh : h[id]? = some h[id] := List.getElem?_eq_getElem hl
  rcases n.2 id _ hh with h2 | ⟨sz, es, es', own, nil, h2, h3, h4, h5⟩
  · left
    rw [h2] at ho
    rw [hh]; exact ho
  · right
    rw [h3] at ho
    injection ho with ho
    exact ⟨sz, es, es', own, nil, ho.symm, by rw [hh, h2], h4, h5⟩
theorem Step.forget2 {g : List AObj} (R : Rel μ h w) (n : Near h h1) (S : Step μ h w μ' (h1 ++ g) w') : Step μ h w (μ.mix μ') h1 w' ∧ Ext (μ.mix μ') h1 μ' (h1 ++ g) := by
  have hin : ∀ i o, h1[i]? = some o → (h1 ++ g)[i]? = some o := fun i o hi => by
    rw [List.getElem?_append_left (List.getElem?_eq_some_iff.1 hi).1]; exact hi
  have hloc : ∀ (id : Nat) (o : AObj), h[id]? = some o → o ≠ .dead → μ' id = μ id := by
    intro id o ho hd
    have := S.evo.obj id o ho
    cases o with
    | dead => exact absurd rfl hd
    | loop m ps asg body ts st pend => obtain ⟨_, _, _, h2⟩ := this; exact h2
    | iter m n seen => obtain ⟨_, _, h2⟩ := this; exact h2
    | map kvs => obtain ⟨_, _, h2⟩ := this; exact h2
    | arr sz es own nil =>
      obtain ⟨es', nil', q1, q2, q3⟩ := this
      rcases n.2 id _ ho with h2 | ⟨sz2, es2, es3, own2, nil2, h2, h3, h4, h5⟩
      · rw [hin _ _ h2] at q1
        injection q1 with q1
        injection q1 with e1 e2 e3 e4
        exact q3 (by rw [e2])
      · rw [hin _ _ h3] at q1
        injection q1 with q1
        injection q1 with e1 e2 e3 e4
        injection h2 with f1 f2 f3 f4
        exact q3 (by rw [← e2, h4, f2])
  have hloc1 : ∀ (id : Nat) (o : AObj), h1[id]? = some o → o ≠ .dead → μ' id = μ id := by
    intro id o ho hd
    rcases n.back ho with h2 | ⟨sz, es, es', own, nil, h2, h3, h4, h5⟩
    · exact hloc id o h2 hd
    · exact hloc id _ h3 (by simp)
  have he : Ext (μ.mix μ') h1 μ' (h1 ++ g) := ⟨fun k hk => ⟨hk, rfl⟩, fun id o ho => ⟨hin _ _ ho, fun hd => hloc1 id o ho hd⟩⟩
  have hE : Evo μ h (μ.mix μ') h1 := by
    refine ⟨S.evo.imm, fun id o ho => ?_⟩
    rcases n.2 id _ ho with h2 | ⟨sz2, es2, es3, own2, nil2, rfl, h3, h4, h5⟩
    · cases o with
      | dead => trivial
      | loop m ps asg body ts st pend => exact ⟨st, pend, h2, rfl⟩
      | iter m n seen => exact ⟨seen, h2, rfl⟩
      | map kvs => exact ⟨kvs, h2, rfl⟩
      | arr sz es own nil => exact ⟨es, nil, h2, Nat.le_refl _, fun _ => rfl⟩
    · exact ⟨es3, nil2, h3, by omega, fun _ => rfl⟩
  have hmu : ∀ i o b x c, h1[i]? = some o → isOwn o = true → (μ.mix μ') i = .real b x c → μ' i = .real b x c := fun i o b x c p1 p2 p3 => by
    rw [hloc1 i o p1 (by rintro rfl; simp [isOwn] at p2)]; exact p3
  have hown : ∀ b, Own (μ.mix μ') h1 b → Own μ' (h1 ++ g) b := by
    rintro b ⟨id, o, x, c, p1, p2, p3⟩
    exact ⟨id, o, x, c, hin _ _ p1, p2, hmu _ _ _ _ _ p1 p2 p3⟩
  have hown0 : ∀ b, Own (μ.mix μ') h1 b → Own μ h b := by
    rintro b ⟨id, o, x, c, p1, p2, p3⟩
    rcases n.back p1 with h2 | ⟨sz, es, es', own, nil, rfl, h3, h4, h5⟩
    · exact ⟨id, o, x, c, h2, p2, p3⟩
    · exact ⟨id, _, x, c, h3, p2, p3⟩
  refine ⟨⟨⟨fun id o ho => ?_, ?_, ?_, ?_⟩, hE, S.frame, fun b hb => .inl (hown0 b hb), S.fresh⟩, he⟩
  · have H := S.rel.obj id o (hin _ _ ho)
    rcases n.back ho with h2 | ⟨sz, es, es', own, nil, rfl, h3, h4, h5⟩
    · exact ORel.back he ho (w := w) (ORel.mono hE rfl (fun _ _ _ _ => rfl) (Nat.le_refl _) (R.obj id o h2)) H
    · refine ⟨H.1, ?_⟩
      have H2 := H.2
      have hm : μ' id = (μ.mix μ') id := hloc1 id _ ho (by simp)
      rw [← hm]
      cases hmu2 : μ' id with
      | virt A => rw [hmu2] at H2; exact H2
      | real blk x c =>
        rw [hmu2] at H2
        obtain ⟨q1, q2, q3, q4, q5, q6⟩ := H2
        refine ⟨q1, q2, q3, q4, fun i e j a p q => ?_, q6⟩
        obtain ⟨v, r1, r2, r3⟩ := q5 i e j a p q
        exact ⟨v, r1, r2, plain_VR he.imm (h5 e (List.mem_of_getElem? p) a (List.mem_of_getElem? q)) r3⟩
  · intro i j o p b x c y d hi hj hoi hpj hmi hmj
    exact S.rel.sep i j o p b x c y d (hin _ _ hi) (hin _ _ hj) hoi hpj (hmu _ _ _ _ _ hi hoi hmi) (hmu _ _ _ _ _ hj hpj hmj)
  · intro i sz es nil b x c hi hmi hO
    rcases n.back hi with h2 | ⟨sz2, es2, es3, own2, nil2, h2, h3, h4, h5⟩
    · exact R.apart i sz es nil b x c h2 hmi (hown0 b hO)
    · injection h2 with f1 f2 f3 f4
      subst f1 f3 f4
      exact R.apart i _ es2 _ b x c h3 hmi (hown0 b hO)
  · intro k hk
    obtain ⟨p1, p2, p3⟩ := S.rel.imm k hk
    exact ⟨p1, p2, fun hO => p3 (hown k hO)⟩
def Writes (F : Fun) (id : Nat) (x : AV) (sz : Nat) (xs zs : List AV) : Prop :=
  (∀ c ∈ zs, plain c = true) ∧ ∀ H : Hp, H[id]? = some (.arr sz [xs] true false) → ∃ g, F [.ptr id 0 0 1, x] H = some (.tup [], H.set id (.arr sz [zs] true false) ++ g)
open Classical in
noncomputable def wrD (F : Fun) : DFun := fun args h base => match args with
  | [.ptr id 0 0 1, x] => match h[id]? with
    | some (.arr sz [xs] true false) => if hx : ∃ zs, Writes F id x sz xs zs then some (.tup [], ⟨[(id, .arr sz [hx.choose] true false)], [], [id]⟩) else none
    | _ => none
  | _ => none
theorem Writes.unique {F : Fun} {id : Nat} {x : AV} {sz : Nat} {xs zs ys : List AV} {h : Hp} (hid : h[id]? = some (.arr sz [xs] true false)) (h1 : Writes F id x sz xs zs) (h2 : Writes F id x sz xs ys) : zs = ys := by
  obtain ⟨g1, e1⟩ := h1.2 h hid
  obtain ⟨g2, e2⟩ := h2.2 h hid
  rw [e1] at e2
  injection e2 with e2
  injection e2 with _ e2
  have hl := (List.getElem?_eq_some_iff.1 hid).1
  have := congrArg (fun l : Hp => l[id]?) e2
  rw [List.getElem?_append_left (by simpa using hl), List.getElem?_append_left (by simpa using hl), List.getElem?_set_self hl, List.getElem?_set_self hl] at this
  injection this with this
  injection this with _ this
  injection this
theorem wrD_val {F : Fun} {id : Nat} {x : AV} {sz : Nat} {xs zs : List AV} {h : Hp} (hid : h[id]? = some (.arr sz [xs] true false)) (hw : Writes F id x sz xs zs) (base : Nat) : wrD F [.ptr id 0 0 1, x] h base = some (.tup [], ⟨[(id, .arr sz [zs] true false)], [], [id]⟩) := by
  have hx : ∃ zs, Writes F id x sz xs zs := ⟨zs, hw⟩
  simp only [wrD, hid]
  rw [dif_pos hx, Writes.unique hid hx.choose_spec hw]
theorem wrD_inv {F : Fun} {args : List AV} {h : Hp} {base : Nat} {v : AV} {e : Eff} (hk : wrD F args h base = some (v, e)) : ∃ id x sz xs zs, args = [.ptr id 0 0 1, x] ∧ h[id]? = some (.arr sz [xs] true false) ∧ Writes F id x sz xs zs ∧ v = .tup [] ∧ e = ⟨[(id, .arr sz [zs] true false)], [], [id]⟩ := by
  unfold wrD at hk
  split at hk <;> try (simp at hk; done)
  rename_i id x
  split at hk <;> try (simp at hk; done)
  rename_i sz xs hid
  split at hk <;> try (simp at hk; done)
  rename_i hx
  simp only [Option.some.injEq, Prod.mk.injEq] at hk
  exact ⟨id, x, sz, xs, hx.choose, rfl, hid, hx.choose_spec, hk.1.symm, hk.2.symm⟩
theorem wrD_loc (F : Fun) : DLoc (wrD F) := by
  refine ⟨fun args h base v e hk H hag => ?_, fun args h base v e hk p hp => ?_⟩
  · obtain ⟨id, x, sz, xs, zs, rfl, hid, hw, rfl, rfl⟩ := wrD_inv hk
    exact wrD_val (hag id (by simp) _ hid) hw base
  · obtain ⟨id, x, sz, xs, zs, rfl, hid, hw, rfl, rfl⟩ := wrD_inv hk
    simp only [List.mem_singleton] at hp
    subst hp
    exact ⟨_, hid, by simp⟩
theorem wrD_calls {F : Fun} {f : FuncId} (hc : CSound P f F) : DCalls P f (wrD F) := by
  intro args h base v e hk hd μ w cargs R hargs
  obtain ⟨id, x, sz, xs, zs, rfl, hid, hw, rfl, rfl⟩ := wrD_inv hk
  obtain ⟨g, hg⟩ := hw.2 h hid
  obtain ⟨hgo, hcall⟩ := hc _ _ _ _ hg μ w cargs R hargs
  refine ⟨hgo, Calls.mono hcall ?_⟩
  rintro en w' ⟨cv, μ', rfl, hst, hv⟩
  have hl := (List.getElem?_eq_some_iff.1 hid).1
  have hn : Near h (h.set id (.arr sz [zs] true false)) := by
    refine ⟨by simp, fun j o ho => ?_⟩
    by_cases hj : id = j
    · subst hj
      rw [hid] at ho
      injection ho with ho
      subst ho
      right
      refine ⟨sz, [xs], [zs], true, false, rfl, by rw [List.getElem?_set_self hl], rfl, ?_⟩
      intro e he c hc
      simp only [List.mem_singleton] at he
      subst he
      exact hw.1 c hc
    · left
      rw [List.getElem?_set_ne hj]
      exact ho
  obtain ⟨h1, h2⟩ := Step.forget2 R hn hst
  exact ⟨cv, _, rfl, by simpa [apAt] using h1, plain_VR h2.imm rfl hv⟩
theorem DSound.wr {D : DTab} (DS : DSound P D) {f : Nat} {F : Fun} (hc : CSound P f F) : DSound P (updD D f (wrD F)) := DS.upd (wrD_loc F) (wrD_calls hc)
end Go.AM


namespace Go.AM
open Go.RowKit
open Classical in
set_option linter.unusedVariables false
variable {P : Program} {μ μ' : Mu} {h h' : Hp} {w w' : World} {β : Type} {ks : List Nat} {np nt : Nat} {ds : List Deferred} {ρ : Option Nat}
def CSoundK (P : Program) (f : FuncId) (RK : {β : Type} → (AV → Hp → Option β) → List AV → Hp → Option β) : Prop := ∀ {β : Type} (K : AV → Hp → Option β) (args : List AV) (h : Hp) (res : β), RK K args h = some res → ∀ μ w (cargs : Array Value), Rel μ h w → VRs μ h args cargs.toList →
  Goes P f ∧ Calls P f cargs w fun e w' => ∃ v h' cv μ', K v h' = some res ∧ e = .returned cv ∧ Step μ h w μ' h' w' ∧ VR μ' h' v cv
theorem leavesK_sound (R0 : Rel μ h w) {h1 : Hp} {a : Act} {t : Tm} {fn : Func} {v : AV} {h' : Hp} (hx : outsK P t h1 fn.results.toList (fun vs => some (pack vs, h1)) = some (v, h')) {Q : Ending → World → Prop} (hQ : ∀ cv μ' w', Step μ h w μ' h' w' → VR μ' h' v cv → Q (.returned cv) w') : ∀ (rs : List Nat) (μ1 : Mu) (w1 : World), Step μ h w μ1 h1 w1 → rs.Nodup →
    (∀ r ∈ rs, w.heap.size ≤ r ∧ μ1.imm r ∧ μ1.base.heap[r]? = some (.deferred (some []))) → (∀ i, VR μ1 h1 (t i) (a.eval (.tmp i))) →
    LeavesInM (FW none) 0 P fn a.tmps Q (rs.map (fun r => { target := .collected r, args := #[] })) .returning w1
  | [], μ1, w1, S, _, _, hv => by
    obtain ⟨xs, u, e, r1, r2⟩ := results_sound S.rel hv hx
    simp only [Option.some.injEq, Prod.mk.injEq] at e
    obtain ⟨rfl, rfl⟩ := e
    exact ⟨u, r1, hQ u μ1 _ S r2⟩
  | r :: rs, μ1, w1, S, hn, hr, hv => by
    obtain ⟨p1, p2, p3⟩ := hr r (by simp)
    obtain ⟨q1, μ2, q2, q3, q4⟩ := Step.take (P := P) R0 S p1 p2 p3
    rw [List.nodup_cons] at hn
    refine ⟨by simp, .inl ⟨r, _, rfl, q1, ?_⟩⟩
    exact leavesK_sound R0 hx hQ rs μ2 _ q2 hn.2 (fun r' hr' => by
      obtain ⟨s1, s2, s3⟩ := hr r' (by simp [hr'])
      have hne : r' ≠ r := fun e => hn.1 (e ▸ hr')
      exact ⟨s1, (q4 r' hne s2).1, (q4 r' hne s2).2.trans s3⟩) fun i => q3 _ _ (hv i)
theorem runK_sound {T : Tab} {D : DTab} (TS : TSound P T) (DS : DSound P D) (hm : P.follows .mixedOrders = true) {f : FuncId} {fn : Func} (hf : P.funcs[f]? = some fn) (hok : fnOk ks np fn = true) (N : Nat) : CSoundK P f (fun {β} K args h => if args.length = np then runK P T D N ks fn K args h else none) := by
  intro β K args h res hk μ w cargs R hargs
  simp only [fnOk, Bool.and_eq_true, decide_eq_true_eq, Bool.not_eq_true'] at hok
  obtain ⟨⟨hnt, hname⟩, hc⟩ := hok
  cases hb : fn.body with
  | none => rw [hb] at hc; cases hc
  | some c =>
    rw [hb] at hc
    refine ⟨⟨fn, hf, hname, by rw [hb]; rfl⟩, ?_⟩
    dsimp only at hk
    split at hk <;> try (simp at hk; done)
    rename_i hlen
    unfold runK at hk
    rw [hb] at hk
    simp only at hk
    have hsz : cargs.size = np := by rw [← hlen, hargs.length]; simp
    have hfit : Fit ks np fn.ntmps [] μ h (tm0 args) { tmps := cargs ++ Array.replicate (fn.ntmps - cargs.size) undef, defers := [] } := by
      refine ⟨by simp; omega, rfl, fun i => ?_, fun i _ => rfl, fun i _ hi => ?_⟩
      · rw [look_nil, tm0_get]
        cases ha : args[i]? with
        | none => simp [VR]
        | some x =>
          obtain ⟨u, h1, h2⟩ := hargs.get i x ha
          have hlt : i < cargs.size := by
            rw [← Array.length_toList]; exact (List.getElem?_eq_some_iff.1 h1).1
          have : (Act.mk (cargs ++ Array.replicate (fn.ntmps - cargs.size) undef) []).eval (.tmp i) = u := by
            simp only [Act.eval, Array.getD_eq_getD_getElem?, Array.getElem?_append_left hlt]
            have : cargs[i]? = some u := by simpa using h1
            rw [this]; rfl
          rw [this]
          exact h2
      · rw [tm0_get, List.getElem?_eq_none (by omega)]; rfl
    refine callsIn_wide.1 (callsIn_of_wp_marks (n := 0) (F := FW none) hf hb trivial ?_)
    refine exec_sound (ρ := none) (b0 := w.heap.size) TS DS hm c hc (.inl rfl) [] _ _ _ _ _ _ _ _ hk hfit ⟨[], rfl, List.nodup_nil, fun r hr => by cases hr⟩ (Nat.le_refl _) R ?_
    intro e t' h1 a' w' μ' ds' q1 q2 qm q3
    have key : outsK P t' h1 fn.results.toList (fun vs => K (pack vs) h1) = some res → LeavesInM (FW none) 0 P fn a'.tmps (fun e w' => ∃ v h' cv μ', K v h' = some res ∧ e = .returned cv ∧ Step μ h w μ' h' w' ∧ VR μ' h' v cv) a'.defers .returning w' := by
      intro hx
      obtain ⟨rs, m1, m2, m3⟩ := qm
      rw [outsK_eq] at hx
      obtain ⟨vs, hvs, hKv⟩ := Option.bind_eq_some_iff.1 hx
      have hx2 : outsK P t' h1 fn.results.toList (fun vs => some (pack vs, h1)) = some (pack vs, h1) := by rw [outsK_eq, hvs]; rfl
      rw [q2.defers, m1]
      exact leavesK_sound R hx2 (fun cv μ' w' s1 s2 => ⟨_, _, cv, μ', hKv, rfl, s1, s2⟩) rs μ' w' q3 m2 m3 q2.val
    cases e with
    | normal => exact key q1
    | exit i => simp [finK, Ex.on] at q1
    | ret => exact key q1
noncomputable def closedXK (shp shr : List Sh) (RK : {β : Type} → (AV → Hp → Option β) → List AV → Hp → Option β) : Fun := fun args h =>
  match cvts false h args with
  | some asl => match RK (fun v g => cvt (!plains args) g v) (nrms shp asl) [] with
    | some v' => some (nrmR shr v', h)
    | none => none
  | none => none
theorem closedXK_sound {f : FuncId} {RK : {β : Type} → (AV → Hp → Option β) → List AV → Hp → Option β} (shp shr : List Sh) (hc : CSoundK P f RK) : CSound P f (closedXK shp shr RK) := by
  intro args h v h' hk μ w cargs R hargs
  unfold closedXK at hk
  split at hk <;> try (simp at hk; done)
  rename_i asl hcv
  split at hk <;> try (simp at hk; done)
  rename_i u' hF
  simp only [Option.some.injEq, Prod.mk.injEq] at hk
  obtain ⟨rfl, rfl⟩ := hk
  cases hpl : plains args with
  | true =>
    rw [cvts_plain hpl] at hcv
    injection hcv with hcv
    subst hcv
    have R1 : Rel μ [] w := Rel.nil fun k hk => ⟨(R.imm k hk).1, (R.imm k hk).2.1⟩
    obtain ⟨hg, hcall⟩ := hc _ _ _ _ hF μ w cargs R1 (nrms_VRs shp (plain_VRs (ImmLe.refl _) hpl hargs))
    refine ⟨hg, Calls.mono hcall ?_⟩
    rintro e w' ⟨u, g, cv, μ2, hu, rfl, S, hv⟩
    rw [hpl] at hu
    have hnew : ∀ k, Own μ2 g k → w.heap.size ≤ k := fun k hk => (S.own k hk).elim (fun q => (Own.nil q).elim) id
    have him : ∀ k, μ2.imm k → μ.imm k ∨ w.heap.size ≤ k := fun k hk => (S.fresh k hk).elim .inl fun q => q.elim (fun q => (Own.nil q).elim) .inr
    obtain ⟨ξ, hξ⟩ : ∃ ξ : Mu, ξ = { loc := μ.loc, base := w', imm := fun k => μ2.imm k ∨ Own μ2 g k } := ⟨_, rfl⟩
    have hle : ImmLe μ ξ := fun k hk => by
      subst hξ
      refine ⟨.inl (S.evo.imm k hk).1, ?_⟩
      exact ((S.rel.imm k (S.evo.imm k hk).1).2.1).trans (S.evo.imm k hk).2
    obtain ⟨r1, r2, r3⟩ := Rel.over (g := g) R S.frame (ξ := ξ) (by rw [hξ]) hle (fun k hk => by
      subst hξ
      rcases hk with hk | hk
      · exact ⟨(S.rel.imm k hk).1, rfl, fun hO => by
          have := R.own_lt hO
          rcases him k hk with q | q
          · exact (R.imm k q).2.2 hO
          · omega⟩
      · exact ⟨S.rel.own_lt hk, rfl, fun hO => by have := R.own_lt hO; have := hnew k hk; omega⟩)
    have hfin := cvt_sound (ν := ξ) S.rel (fun k hk => by subst hξ; rfl) (fun k hk => by subst hξ; exact .inr hk) (fun _ k hk => by subst hξ; exact .inl hk) hv hu
    refine ⟨cv, ξ, rfl, ⟨r1, r2, r3, fun b hb => .inl ?_, fun k hk => ?_⟩, nrmR_VR (VR.lift h hfin)⟩
    · subst hξ; exact hb
    · subst hξ
      rcases hk with hk | hk
      · exact (him k hk).elim .inl fun q => .inr (.inr q)
      · exact .inr (.inr (hnew k hk))
  | false =>
    obtain ⟨μ1, hμ1⟩ : ∃ μ1 : Mu, μ1 = { loc := μ.loc, base := w, imm := fun k => μ.imm k ∨ Own μ h k } := ⟨_, rfl⟩
    have R1 : Rel μ1 [] w := Rel.nil fun k hk => by
      subst hμ1
      rcases hk with hk | hk
      · exact ⟨(R.imm k hk).1, rfl⟩
      · exact ⟨R.own_lt hk, rfl⟩
    have hargs1 : VRs μ1 [] asl cargs.toList := cvts_sound R (fun k hk => by subst hμ1; rfl) (fun k hk => by subst hμ1; exact .inr hk) (fun _ k hk => by subst hμ1; exact .inl hk) hargs hcv
    obtain ⟨hg, hcall⟩ := hc _ _ _ _ hF μ1 w cargs R1 (nrms_VRs shp hargs1)
    refine ⟨hg, Calls.mono hcall ?_⟩
    rintro e w' ⟨u, g, cv, μ2, hu, rfl, S, hv⟩
    rw [hpl] at hu
    have hnew : ∀ k, Own μ2 g k → w.heap.size ≤ k := fun k hk => (S.own k hk).elim (fun q => (Own.nil q).elim) id
    have hbl : ∀ k, k < w.heap.size → w'.heap[k]? = w.heap[k]? := fun k hk => S.frame.block k hk Own.nil
    obtain ⟨ξ, hξ⟩ : ∃ ξ : Mu, ξ = { loc := μ.loc, base := w', imm := fun k => μ.imm k ∨ Own μ2 g k } := ⟨_, rfl⟩
    have hle : ImmLe μ ξ := fun k hk => by
      subst hξ
      exact ⟨.inl hk, (hbl k (R.imm k hk).1).trans (R.imm k hk).2.1⟩
    obtain ⟨r1, r2, r3⟩ := Rel.over (g := g) R S.frame (ξ := ξ) (by rw [hξ]) hle (fun k hk => by
      subst hξ
      rcases hk with hk | hk
      · exact ⟨Nat.lt_of_lt_of_le (R.imm k hk).1 S.frame.size, rfl, (R.imm k hk).2.2⟩
      · exact ⟨S.rel.own_lt hk, rfl, fun hO => by have := R.own_lt hO; have := hnew k hk; omega⟩)
    have hfin := cvt_sound (ν := ξ) S.rel (fun k hk => by subst hξ; rfl) (fun k hk => by subst hξ; exact .inr hk) (fun hst => by simp at hst) hv hu
    refine ⟨cv, ξ, rfl, ⟨r1, r2, r3, fun b hb => .inl ?_, fun k hk => ?_⟩, nrmR_VR (VR.lift h hfin)⟩
    · subst hξ; exact hb
    · subst hξ
      rcases hk with hk | hk
      · exact .inl hk
      · exact .inr (.inr (hnew k hk))

theorem closedXK_val {shp shr : List Sh} {RK : {β : Type} → (AV → Hp → Option β) → List AV → Hp → Option β} {args : List AV} {v : AV} (ha : plains args = true) (hv : RK (fun v g => cvt false g v) (nrms shp args) [] = some v) (h : Hp) : closedXK shp shr RK args h = some (nrmR shr v, h) := by
  unfold closedXK
  rw [cvts_plain ha]
  simp only [ha, Bool.not_true]
  rw [hv]
theorem closedXK_own {shp shr : List Sh} {RK : {β : Type} → (AV → Hp → Option β) → List AV → Hp → Option β} {args asl : List AV} {v : AV} {h : Hp} (ha : cvts false h args = some asl) (hv : ∀ st, RK (fun v g => cvt st g v) (nrms shp asl) [] = some v) : closedXK shp shr RK args h = some (nrmR shr v, h) := by
  unfold closedXK
  rw [ha]
  simp only []
  rw [hv]
end Go.AM

