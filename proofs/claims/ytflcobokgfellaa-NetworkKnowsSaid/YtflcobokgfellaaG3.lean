import Derived.Test.YtflcobokgfellaaG2
import Derived.Test.YtflcobokgfellaaProg
import Derived.Shelf.SlSortCmp.NoneTotal
set_option linter.unusedSectionVars false
set_option linter.unusedVariables false
set_option linter.unusedSimpArgs false
set_option linter.constructorNameAsVariable false
namespace Go.AM
open Go.RowKit
set_option linter.unusedVariables false
set_option linter.unusedSimpArgs false
set_option linter.constructorNameAsVariable false
variable {P : Program} {μ μ' : Mu} {h h' : Hp} {w w' : World} {ks : List Nat} {np : Nat}
noncomputable def trimT (ks : List Nat) (np : Nat) (t : Tm) : Tm := fun i => match ks.contains i || decide (i < np) with | true => t i | false => .u
noncomputable def bindT (t : Tm) : List Nat → List AV → Tm
  | p :: ps, a :: asl => bindT (upd t p a) ps asl
  | _, _ => t
noncomputable def okRound (ks : List Nat) (np m : Nat) (ps : List Nat) (n : Nat) (asg body : Code) : Bool :=
  Nat.beq ps.length n && (ps.all fun p => ks.contains p && decide (p < m)) && codeOk ks np m asg && codeOk ks np m body && noRange asg && noRange body
noncomputable def endK (L m : Nat) (ps : Array Tmp) (asg body : Code) (ts : Tm) (e : Ex) (s : St) : Option (AV × Hp) :=
  e.on (some (.s (.bool true), s.2.set L (.loop m ps asg body ts .ready none)))
    (fun i => some (.s (.bool false), s.2.set L (.loop m ps asg body ts .done (some (.exit i)))))
    (some (.s (.bool false), s.2.set L (.loop m ps asg body ts .done (some .ret))))
noncomputable def beginX {β : Type} (L m : Nat) (ps : Array Tmp) (asg body : Code) (ts : Tm) (h : Hp) (k : Hp → Option β) : Option β :=
  match h[L]? with
  | some (.loop _ _ _ _ _ .ready pend) => k (h.set L (.loop m ps asg body ts .busy pend))
  | _ => none
noncomputable def beginK (P : Program) (T : Tab) (D : DTab) (N : Nat) (ks : List Nat) (L m : Nat) (ps : Array Tmp) (asg body : Code) (ts : Tm) (e : Ex) (s : St) : Option (AV × Hp) :=
  e.on (beginX L m ps asg body ts s.2 fun h => execK P T D N ks body (s.1, h) (endK L m ps asg body ts)) (fun _ => none) none
noncomputable def roundF (P : Program) (T : Tab) (D : DTab) (N : Nat) (ks : List Nat) (np L m : Nat) (ps : Array Tmp) (asg body : Code) (ts : Tm) (args : List AV) (h : Hp) : Option (AV × Hp) :=
  execK P T D N ks asg (bindT (trimT ks np ts) ps.toList args, h) (beginK P T D N ks L m ps asg body ts)
noncomputable def yieldF (P : Program) (T : Tab) (D : DTab) (N : Nat) (ks : List Nat) (np : Nat) : Fun := fun args h =>
  match args with
  | .s (.map (some 0)) :: .yl L :: asl =>
    match h[L]? with
    | some (.loop m ps asg body ts .ready pend) => match okRound ks np m ps.toList asl.length asg body with
      | true => roundF P T D N ks np L m ps asg body ts asl h
      | false => none
    | _ => none
  | _ => none
theorem yieldF_val {T : Tab} {D : DTab} {N L m : Nat} {ps : Array Tmp} {asg body : Code} {ts : Tm} {pend : Option Code} {asl : List AV} (hL : h[L]? = some (.loop m ps asg body ts .ready pend)) (hok : okRound ks np m ps.toList asl.length asg body = true) :
    yieldF P T D N ks np (ymark :: .yl L :: asl) h = roundF P T D N ks np L m ps asg body ts asl h := by
  unfold yieldF
  simp [hL, hok]
theorem dstOk_mono {m n : Nat} (hm : m ≤ n) {d : Option Nat} (h : dstOk ks np m d = true) : dstOk ks np n d = true := by
  cases d with
  | none => rfl
  | some d =>
    simp only [dstOk, Bool.and_eq_true, decide_eq_true_eq] at h ⊢
    exact ⟨by omega, h.2⟩
theorem codeOk_mono {m n : Nat} (hm : m ≤ n) : ∀ (c : Code), codeOk ks np m c = true → codeOk ks np n c = true
  | .region _ ops _, h => by
    simp only [codeOk, List.all_eq_true] at h ⊢
    exact fun o ho => dstOk_mono hm (h o ho)
  | .seq a b, h => by simp only [codeOk, Bool.and_eq_true] at h ⊢; exact ⟨codeOk_mono hm a h.1, codeOk_mono hm b h.2⟩
  | .cond _ a b, h => by simp only [codeOk, Bool.and_eq_true] at h ⊢; exact ⟨codeOk_mono hm a h.1, codeOk_mono hm b h.2⟩
  | .block _ c, h => by simp only [codeOk] at h ⊢; exact codeOk_mono hm c h
  | .loop c, h => by simp only [codeOk] at h ⊢; exact codeOk_mono hm c h
  | .scope c, h => by simp only [codeOk] at h ⊢; exact codeOk_mono hm c h
  | .rangeFunc _ _ a c, h => by simp only [codeOk, Bool.and_eq_true] at h ⊢; exact ⟨codeOk_mono hm a h.1, codeOk_mono hm c h.2⟩
  | .skip, _ => rfl
  | .label _, _ => rfl
  | .exit _, _ => rfl
  | .ret, _ => rfl
  | .goto _, _ => rfl
  | .refuse _, _ => rfl
theorem bind_sound {nt : Nat} : ∀ (ps : List Nat) (asl : List AV) (cas : List Value) (t : Tm) (tmps : Array Value), VRs μ h asl cas → ps.length = asl.length → tmps.size = nt → (∀ p ∈ ps, ks.contains p = true ∧ p < nt) →
    (∀ i, VR μ h (t i) (tmps.getD i undef)) → (∀ i, ks.contains i = false → np ≤ i → t i = .u) →
    ∃ tm : Array Value, (ps.zip cas).foldl (fun tmps (p : Nat × Value) => tmps.setIfInBounds p.1 p.2) tmps = tm ∧ Fit ks np nt [] μ h (bindT t ps asl) { tmps := tm, defers := [] }
  | [], asl, cas, t, tmps, hv, hl, hs, hp, ht, hlow => by
    refine ⟨tmps, by simp, hs, rfl, fun i => ?_, fun i _ => rfl, ?_⟩
    · rw [look_nil]; simpa [bindT, Act.eval] using ht i
    · simpa [bindT] using hlow
  | p :: ps, [], cas, t, tmps, hv, hl, hs, hp, ht, hlow => by simp at hl
  | p :: ps, a :: asl, cas, t, tmps, hv, hl, hs, hp, ht, hlow => by
    simp only [VRs] at hv
    obtain ⟨v, vs, rfl, h1, h2⟩ := hv
    have hpp := hp p (by simp)
    simp only [List.zip_cons_cons, List.foldl_cons, bindT]
    refine bind_sound ps asl vs (upd t p a) _ h2 (by simpa using hl) (by simpa using hs) (fun q hq => hp q (by simp [hq])) (fun i => ?_) (fun i hi hn => ?_)
    · have := eval_put { tmps, defers := [] } p v (by rw [hs]; exact hpp.2) i
      simp only [Act.put, Act.eval] at this
      rw [this]
      simp only [upd]
      split
      · exact h1
      · exact ht i
    · simp only [upd]
      rw [if_neg (by rintro rfl; rw [hpp.1] at hi; cases hi)]
      exact hlow i hi hn
theorem yieldF_sound {T : Tab} {D : DTab} (TS : TSound P T) (DS : DSound P D) (hm : P.follows .mixedOrders = true) (N : Nat) : YSound P (yieldF P T D N ks np) := by
  intro args h v h' hk
  unfold yieldF at hk
  split at hk <;> try (simp at hk; done)
  rename_i L asl
  refine ⟨L, asl, rfl, fun μ w cas blk n R hcas hmu => ?_⟩
  split at hk <;> try (simp at hk; done)
  rename_i m ps asg body ts pend hL
  split at hk <;> try (simp at hk; done)
  rename_i hok
  simp only [okRound, Bool.and_eq_true, List.all_eq_true, decide_eq_true_eq] at hok
  obtain ⟨⟨⟨⟨⟨hlen, hps⟩, hc1⟩, hc2⟩, hn1⟩, hn2⟩ := hok
  have hlen := Nat.eq_of_beq_eq_true hlen
  obtain ⟨blk', r, hmu', hh, r1, r2, r3, r4, r5, r6, r7⟩ := R.obj _ _ hL
  rw [hmu] at hmu'
  injection hmu' with e
  subst e
  have hsz : cas.size = r.params.size := by
    rw [r3, ← Array.length_toList, ← hcas.length, ← hlen, Array.length_toList]
  obtain ⟨tm, e1, hF⟩ := bind_sound (ks := ks) (np := np) ps.toList asl cas.toList (trimT ks np ts) r.tmps hcas hlen rfl (fun p hp => ⟨(hps p hp).1, Nat.lt_of_lt_of_le (hps p hp).2 r6⟩) (fun i => by
    unfold trimT; split
    · exact r7 i
    · simp [VR]) (fun i hi hn => by
    unfold trimT
    split
    · rename_i q
      rw [hi] at q
      simp at q
      omega
    · rfl)
  have e2 : (r.params.zip cas).foldl (fun tmps (p : Nat × Value) => tmps.setIfInBounds p.1 p.2) r.tmps = tm := by
    rw [← e1, r3, ← Array.foldl_toList, Array.toList_zip]
  refine ⟨r.fn, tm, r.assign, r.body, ?_, ?_⟩
  · have := run_yield (P := P) hh hsz
    rw [← e2]
    exact this
  · refine roundIn_of_wpIn (F := Fence.wide) trivial ?_
    unfold roundF at hk
    rw [r4]
    refine exec_sound (ρ := some blk) (b0 := 0) (nt := r.tmps.size) TS DS hm asg (codeOk_mono r6 asg hc1) (.inr hn1) [] _ h _ _ _ w μ _ hk hF ⟨[], rfl, List.nodup_nil, fun r hr => by cases hr⟩ (Nat.zero_le _) R ?_
    intro e t1 h1 a1 w1 μ1 ds1 q1 q2 qm q3
    cases e with
    | exit i => simp [beginK, Ex.on] at q1
    | ret => simp [beginK, Ex.on] at q1
    | normal =>
      simp only [beginK, Ex.on, beginX] at q1
      split at q1 <;> try (simp at q1; done)
      rename_i m' ps' asg' body' ts' pend' hL1
      obtain ⟨st2, pend2, hL2, hm2⟩ := q3.evo.obj L _ hL
      have hs := hL2.symm.trans hL1
      simp only [Option.some.injEq, AObj.loop.injEq] at hs
      obtain ⟨g1, g2, g3, g4, g5, g6, g7⟩ := hs
      rw [g6, g7] at hL2
      obtain ⟨blk2, rr, k1, k2, k3, k4, k5, k6, k7, k8, k9, S4⟩ := Step.setLoop q3.rel hL2 .busy pend'
      rw [Mu.set_self] at S4
      rw [hm2, hmu] at k1
      injection k1 with e
      subst e
      have hb := run_beginRound (P := P) k2 k3
      rw [← k4] at S4 q1
      refine ⟨_, hb, ?_⟩
      rw [r5]
      have Sb := q3.trans S4
      refine exec_sound (ρ := some blk) (b0 := 0) (nt := r.tmps.size) TS DS hm body (codeOk_mono r6 body hc2) (.inr hn2) ds1 _ _ _ _ _ _ μ1 _ q1 (q2.evo S4.evo) (qm.evo S4.evo.imm) (Nat.zero_le _) S4.rel ?_
      intro e t3 h3 a3 w3 μ3 ds3 p1 p2 pm p3
      have hL3' : (h1.set L (AObj.loop m ps asg body ts .busy rr.pending))[L]? = some (.loop m ps asg body ts .busy rr.pending) := by
        rw [List.getElem?_set_self]; exact (List.getElem?_eq_some_iff.1 hL2).1
      obtain ⟨st3, pend3, hL3, hm3⟩ := p3.evo.obj L _ hL3'
      have fin : ∀ (jump : Option Code) (st' : LoopState) (b : Bool), st' = (if jump.isNone then .ready else .done) → b = jump.isNone → some (AV.s (.bool b), h3.set L (.loop m ps asg body ts st' jump)) = some (v, h') →
          ∃ v' w', (Instr.endRound blk jump).run P w3 = .ok v' w' ∧ ∃ cv μ', Ending.returned v' = .returned cv ∧ Step μ h w μ' h' w' ∧ VR μ' h' v cv := by
        intro jump st' b e1 e2 e3
        simp only [Option.some.injEq, Prod.mk.injEq] at e3
        obtain ⟨rfl, rfl⟩ := e3
        obtain ⟨blk3, r3', j1, j2, j3, j4, j5, j6, j7, j8, j9, S5⟩ := Step.setLoop p3.rel hL3 st' jump
        rw [Mu.set_self] at S5
        rw [hm3, hm2, hmu] at j1
        injection j1 with e
        subst e
        have he := run_endRound (P := P) jump j2
        rw [← e1] at he
        refine ⟨_, _, he, _, μ3, rfl, Sb.trans (p3.trans S5), ?_⟩
        simp only [VR]
        exact ⟨rfl, by rw [e2]⟩
      cases e with
      | normal => exact fin none .ready true rfl rfl p1
      | exit i => exact fin (some (.exit i)) .done false rfl rfl p1
      | ret => exact fin (some .ret) .done false rfl rfl p1
end Go.AM


namespace Go.AM
open Go.Proofs
set_option linter.unusedVariables false
set_option maxRecDepth 100000
theorem un_5 : Try.prog.underlying 5 = some (.int .u8) := by kernel_rfl
theorem un_3 : Try.prog.underlying 3 = some (.int .i64) := by kernel_rfl
@[simp] theorem cv_5_3 {β : Type} (n : Int) (k : K β) : convK Try.prog 5 3 (.s (.int .u8 n)) k = k (.s (.int .i64 (IntKind.i64.wrap n))) := convK_int un_5 un_3 k
@[simp] theorem el_22 : elemOf Try.prog 22 = some 33 := by kernel_rfl
@[simp] theorem eqn_22_false {β : Type} (h : Hp) (k : K β) : eqK Try.prog false 22 (.s (.slice none 0 0)) (.s (.slice none 0 0)) h k = k (.s (.bool true)) := by kernel_rfl
@[simp] theorem eqn_22_true {β : Type} (h : Hp) (k : K β) : eqK Try.prog true 22 (.s (.slice none 0 0)) (.s (.slice none 0 0)) h k = k (.s (.bool false)) := by kernel_rfl
@[simp] theorem el_23 : elemOf Try.prog 23 = some 3 := by kernel_rfl
@[simp] theorem eqn_23_false {β : Type} (h : Hp) (k : K β) : eqK Try.prog false 23 (.s (.slice none 0 0)) (.s (.slice none 0 0)) h k = k (.s (.bool true)) := by kernel_rfl
@[simp] theorem eqn_23_true {β : Type} (h : Hp) (k : K β) : eqK Try.prog true 23 (.s (.slice none 0 0)) (.s (.slice none 0 0)) h k = k (.s (.bool false)) := by kernel_rfl
@[simp] theorem el_37 : elemOf Try.prog 37 = some 31 := by kernel_rfl
@[simp] theorem eqn_37_false {β : Type} (h : Hp) (k : K β) : eqK Try.prog false 37 (.s (.slice none 0 0)) (.s (.slice none 0 0)) h k = k (.s (.bool true)) := by kernel_rfl
@[simp] theorem eqn_37_true {β : Type} (h : Hp) (k : K β) : eqK Try.prog true 37 (.s (.slice none 0 0)) (.s (.slice none 0 0)) h k = k (.s (.bool false)) := by kernel_rfl
@[simp] theorem eqs_31 {β : Type} (neq : Bool) (a0 : Int) (a1 : Int) (a2 : Int) (a3 : Int) (a4 : Int) (a5 : Int) (a6 : Int) (b0 : Int) (b1 : Int) (b2 : Int) (b3 : Int) (b4 : Int) (b5 : Int) (b6 : Int) (h : Hp) (k : K β) : eqK Try.prog neq 31 (.agg [.s (.int .i64 a0), .s (.int .i64 a1), .s (.int .i64 a2), .s (.int .i64 a3), .s (.int .i64 a4), .s (.int .i64 a5), .s (.int .i64 a6)]) (.agg [.s (.int .i64 b0), .s (.int .i64 b1), .s (.int .i64 b2), .s (.int .i64 b3), .s (.int .i64 b4), .s (.int .i64 b5), .s (.int .i64 b6)]) h k = k (.s (.bool (xor neq ((a0 == b0) && ((a1 == b1) && ((a2 == b2) && ((a3 == b3) && ((a4 == b4) && ((a5 == b5) && ((a6 == b6) && (true))))))))))) := by
  have e1 : Try.prog.eqGuardType Try.prog.depth 31 = false := by kernel_rfl
  have e2 : aggT Try.prog 31 = true := by kernel_rfl
  have e3 : eqFlat Try.prog 8 31 [.s (.int .i64 a0), .s (.int .i64 a1), .s (.int .i64 a2), .s (.int .i64 a3), .s (.int .i64 a4), .s (.int .i64 a5), .s (.int .i64 a6)] [.s (.int .i64 b0), .s (.int .i64 b1), .s (.int .i64 b2), .s (.int .i64 b3), .s (.int .i64 b4), .s (.int .i64 b5), .s (.int .i64 b6)] = some ((a0 == b0) && ((a1 == b1) && ((a2 == b2) && ((a3 == b3) && ((a4 == b4) && ((a5 == b5) && ((a6 == b6) && (true)))))))) := by kernel_rfl
  simp only [eqK, e1, e2, e3]
@[simp] theorem eqs_33 {β : Type} (neq : Bool) (a0 : Int) (a1 : Int) (a2 : Int) (a3 : Int) (a4 : Int) (a5 : Int) (a6 : Int) (a7 : Int) (a8 : Int) (a9 : Int) (b0 : Int) (b1 : Int) (b2 : Int) (b3 : Int) (b4 : Int) (b5 : Int) (b6 : Int) (b7 : Int) (b8 : Int) (b9 : Int) (h : Hp) (k : K β) : eqK Try.prog neq 33 (.agg [.s (.int .i64 a0), .s (.int .i64 a1), .s (.int .i64 a2), .s (.int .i64 a3), .s (.int .i64 a4), .s (.int .i64 a5), .s (.int .i64 a6), .s (.int .i64 a7), .s (.int .i64 a8), .s (.int .i64 a9)]) (.agg [.s (.int .i64 b0), .s (.int .i64 b1), .s (.int .i64 b2), .s (.int .i64 b3), .s (.int .i64 b4), .s (.int .i64 b5), .s (.int .i64 b6), .s (.int .i64 b7), .s (.int .i64 b8), .s (.int .i64 b9)]) h k = k (.s (.bool (xor neq ((a0 == b0) && ((a1 == b1) && ((a2 == b2) && (((a3 == b3) && ((a4 == b4) && ((a5 == b5) && ((a6 == b6) && ((a7 == b7) && ((a8 == b8) && ((a9 == b9) && (true)))))))) && (true)))))))) := by
  have e1 : Try.prog.eqGuardType Try.prog.depth 33 = false := by kernel_rfl
  have e2 : aggT Try.prog 33 = true := by kernel_rfl
  have e3 : eqFlat Try.prog 8 33 [.s (.int .i64 a0), .s (.int .i64 a1), .s (.int .i64 a2), .s (.int .i64 a3), .s (.int .i64 a4), .s (.int .i64 a5), .s (.int .i64 a6), .s (.int .i64 a7), .s (.int .i64 a8), .s (.int .i64 a9)] [.s (.int .i64 b0), .s (.int .i64 b1), .s (.int .i64 b2), .s (.int .i64 b3), .s (.int .i64 b4), .s (.int .i64 b5), .s (.int .i64 b6), .s (.int .i64 b7), .s (.int .i64 b8), .s (.int .i64 b9)] = some ((a0 == b0) && ((a1 == b1) && ((a2 == b2) && (((a3 == b3) && ((a4 == b4) && ((a5 == b5) && ((a6 == b6) && ((a7 == b7) && ((a8 == b8) && ((a9 == b9) && (true)))))))) && (true))))) := by kernel_rfl
  simp only [eqK, e1, e2, e3]
@[simp] theorem eqs_67 {β : Type} (neq : Bool) (a0 : Int) (a1 : Int) (a2 : Int) (a3 : Int) (a4 : Int) (a5 : Int) (a6 : Int) (b0 : Int) (b1 : Int) (b2 : Int) (b3 : Int) (b4 : Int) (b5 : Int) (b6 : Int) (h : Hp) (k : K β) : eqK Try.prog neq 67 (.agg [.s (.int .i64 a0), .s (.int .i64 a1), .s (.int .i64 a2), .s (.int .i64 a3), .s (.int .i64 a4), .s (.int .i64 a5), .s (.int .i64 a6)]) (.agg [.s (.int .i64 b0), .s (.int .i64 b1), .s (.int .i64 b2), .s (.int .i64 b3), .s (.int .i64 b4), .s (.int .i64 b5), .s (.int .i64 b6)]) h k = k (.s (.bool (xor neq ((a0 == b0) && ((a1 == b1) && ((a2 == b2) && ((a3 == b3) && ((a4 == b4) && ((a5 == b5) && ((a6 == b6) && (true))))))))))) := by
  have e1 : Try.prog.eqGuardType Try.prog.depth 67 = false := by kernel_rfl
  have e2 : aggT Try.prog 67 = true := by kernel_rfl
  have e3 : eqFlat Try.prog 8 67 [.s (.int .i64 a0), .s (.int .i64 a1), .s (.int .i64 a2), .s (.int .i64 a3), .s (.int .i64 a4), .s (.int .i64 a5), .s (.int .i64 a6)] [.s (.int .i64 b0), .s (.int .i64 b1), .s (.int .i64 b2), .s (.int .i64 b3), .s (.int .i64 b4), .s (.int .i64 b5), .s (.int .i64 b6)] = some ((a0 == b0) && ((a1 == b1) && ((a2 == b2) && ((a3 == b3) && ((a4 == b4) && ((a5 == b5) && ((a6 == b6) && (true)))))))) := by kernel_rfl
  simp only [eqK, e1, e2, e3]
noncomputable def o_law41_NetworkKnows_j1 (P : Program) (T : Tab) (D : DTab) (N : Nat) {β : Type} (K : AV → Hp → Option β) (t : Tm) (h : Hp) : Option β :=
callK (T 39) [(t 9)] h fun x90 h91 =>
callK (T 38) [x90] h91 fun x92 h93 =>
exK x92 0 fun x94 =>
exK x92 1 fun x95 =>
eqK P false 26 x95 (.s (.int .i64 0)) h93 fun x96 =>
grpK true x96 h93 (fun k97 =>
callK (T 36) [x94, (t 9)] h93 fun x98 h99 =>
k97 x98 h99) fun x100 h101 =>
grpK true x100 h101 (fun k102 =>
callK (T 40) [(t 9), (.fn 41 [(t 14), (t 16)])] h101 fun x103 h104 =>
notK x103 fun x105 =>
k102 x105 h104) fun x106 h107 =>
K x106 h107
noncomputable def o_law41_NetworkKnows_L2 (P : Program) (T : Tab) (D : DTab) (N : Nat) {β : Type} (t : Tm) (h : Hp) (k : Ex → St → Option β) : Option β :=
arithK .lss (t 104) (t 103) fun x108 =>
condK x108 (
iaK 10 (t 102) (t 104) fun x109 =>
ldK 10 true x109 h fun x110 =>
effK (boxE 10 (.agg [.s (.int .i64 0), .s (.int .i64 0), .s (.int .i64 0), .s (.int .i64 0), .s (.int .i64 0), .s (.int .i64 0), .s (.int .i64 0), .s (.int .i64 0), .s (.int .i64 0), .s (.int .i64 0)]) (List.length h)) h fun x111 h112 =>
effK (stE 10 x111 x110 h112) h112 fun x113 h114 =>
faK 3 x111 fun x115 =>
ldK 7 true x115 h114 fun x116 =>
callK (T 37) [(t 9), x116] h114 fun x117 h118 =>
notK x117 fun x119 =>
condK x119 (
k .ret ((upd (upd (upd (upd t 105 x108) 19 x111) 112 x119) 8 (.s (.bool false))), h118)) (
arithK .add (t 104) (.s (.int .i64 1)) fun x120 =>
k .normal ((upd (upd (upd (upd t 105 x108) 19 x111) 112 x119) 104 x120), h118))) (
k (.exit 0) ((upd t 105 x108), h))
noncomputable def o_law41_NetworkKnows_aL2 (P : Program) (T : Tab) (D : DTab) (N : Nat) {β : Type} (K : AV → Hp → Option β) (e : Ex) (s : St) : Option β :=
  e.on ((o_law41_NetworkKnows_j1 P T D N K s.1 s.2))
  (fun i => bif i == 0 then ((o_law41_NetworkKnows_j1 P T D N K s.1 s.2)) else (none))
  (K (s.1 8) s.2)
noncomputable def o_law41_NetworkKnows_G (P : Program) (T : Tab) (D : DTab) (N : Nat) {β : Type} (cL2 : St → Option β) (K : AV → Hp → Option β) (a0 : AV) (a1 : AV) (a2 : AV) (a3 : AV) (h : Hp) :  Option β :=
callK (T 10) [] h fun x1 h2 =>
notK x1 fun x3 =>
condK x3 (
K (.s (.bool false)) h2) (
callK (T 29) [a0, a1] h2 fun x4 h5 =>
notK x4 fun x6 =>
grpK false x6 h5 (fun k7 =>
lenK a0 fun x8 =>
eqK P false 3 x8 (.s (.int .i64 0)) h5 fun x9 =>
k7 x9 h5) fun x10 h11 =>
condK x10 (
K (.s (.bool true)) h11) (
callK (T 13) [a0] h11 fun x12 h13 =>
callK (T 16) [a1] h13 fun x14 h15 =>
callK (T 18) [x12, x14, a2] h15 fun x16 h17 =>
exK x16 0 fun x18 =>
exK x16 1 fun x19 =>
eqK P true 26 x19 (.s (.int .i64 0)) h17 fun x20 =>
condK x20 (
lenK x18 fun x21 =>
eqK P false 3 x21 (.s (.int .i64 0)) h17 fun x22 =>
K x22 h17) (
effK (bsE 1 [.s (.slice none 0 0)] 2 [(0, a1), (1, a1)] (List.length h17)) h17 fun x23 h24 =>
callK (T 35) [x23] h24 fun x25 h26 =>
callK (T 34) [x25] h26 fun x27 h28 =>
callK (T 13) [a0] h28 fun x29 h30 =>
callK (T 18) [x29, x25, a2] h30 fun x31 h32 =>
exK x31 0 fun x33 =>
exK x31 1 fun x34 =>
effD (callE (D 13) [a0] h32 (List.length h32)) h32 fun x35 h36 e37 =>
effD (callE (D 16) [a1] h36 (List.length h36)) h36 fun x38 h39 e40 =>
convK P 5 3 a3 fun x41 =>
lenK a0 fun x42 =>
reckK P .rem 3 x41 x42 fun x43 =>
effD (bsE 1 [.s (.int .i64 0)] 1 [(0, x43)] (List.length h39)) h39 fun x44 h45 e46 =>
effD (appE 1 8 x38 x44 h45 (List.length h45)) h45 fun x47 h48 e49 =>
effD (callE (D 18) [x35, x47, a2] h48 (List.length h48)) h48 fun x50 h51 e52 =>
exK x50 0 fun x53 =>
exK x50 1 fun x54 =>
effD (boxE 1 (.s (.slice none 0 0)) (List.length h51)) h51 fun x55 h56 e57 =>
effD (stE 1 x55 x53 h56) h56 fun x58 h59 e60 =>
bif disjAll [(1, 9), (3, 9), (1, 16), (3, 16), (9, 16), (10, 16), (12, 16)] [([], []), e37, ([], []), e40, ([], []), ([], []), ([], []), ([], []), ([], []), e46, e49, ([], []), e52, ([], []), ([], []), ([], []), e57, e60, ([], [])] then (
callK (T 13) [a0] h59 fun x61 h62 =>
callK (T 16) [a1] h62 fun x63 h64 =>
callK (T 15) [x61, x63, a2] h64 fun x65 h66 =>
exK x65 0 fun x67 =>
exK x65 1 fun x68 =>
effK (boxE 1 (.s (.slice none 0 0)) (List.length h66)) h66 fun x69 h70 =>
effK (stE 1 x69 x67 h70) h70 fun x71 h72 =>
eqK P true 26 x34 (.s (.int .i64 0)) h72 fun x73 =>
grpK false x73 h72 (fun k74 =>
eqK P true 26 x54 (.s (.int .i64 0)) h72 fun x75 =>
k74 x75 h72) fun x76 h77 =>
grpK false x76 h77 (fun k78 =>
eqK P true 26 x68 (.s (.int .i64 0)) h77 fun x79 =>
k78 x79 h77) fun x80 h81 =>
grpK false x80 h81 (fun k82 =>
callK (T 36) [x18, x33] h81 fun x83 h84 =>
notK x83 fun x85 =>
k82 x85 h84) fun x86 h87 =>
condK x86 (
K (.s (.bool false)) h87) (
ldK 1 false x69 h87 fun x88 =>
lenK x88 fun x89 =>
cL2 ((upd (upd (upd (upd (upd (upd (upd (upd (upd (upd (upd (upd (upd (upd (upd (upd (upd (tm0 [a0, a1, a2, a3]) 8 (.s (.bool false))) 23 x3) 32 x10) 9 x18) 10 x19) 43 x20) 11 x25) 12 x33) 13 x34) 14 x55) 15 x54) 16 x69) 17 x68) 101 x86) 102 x88) 103 x89) 104 (.s (.int .i64 0))), h87))) else none)))
noncomputable def o_law41_NetworkKnows (P : Program) (T : Tab) (D : DTab) (N : Nat) {β : Type} (K : AV → Hp → Option β) (a0 : AV) (a1 : AV) (a2 : AV) (a3 : AV) (h : Hp) : Option β := o_law41_NetworkKnows_G P T D N (fun s => iterK (fun s k => o_law41_NetworkKnows_L2 P T D N s.1 s.2 k) N s (o_law41_NetworkKnows_aL2 P T D N K)) K a0 a1 a2 a3 h
noncomputable def f_law41_NetworkKnows_j1 (P : Program) (T : Tab) (D : DTab) (N : Nat) {β : Type} (K : AV → Hp → Option β) (v9 : AV) (v14 : AV) (v16 : AV) (h : Hp) : Option β :=
callK (T 39) [v9] h fun x90 h91 =>
callK (T 38) [x90] h91 fun x92 h93 =>
exK x92 0 fun x94 =>
exK x92 1 fun x95 =>
eqK P false 26 x95 (.s (.int .i64 0)) h93 fun x96 =>
grpK true x96 h93 (fun k97 =>
callK (T 36) [x94, v9] h93 fun x98 h99 =>
k97 x98 h99) fun x100 h101 =>
grpK true x100 h101 (fun k102 =>
callK (T 40) [v9, (.fn 41 [v14, v16])] h101 fun x103 h104 =>
notK x103 fun x105 =>
k102 x105 h104) fun x106 h107 =>
K x106 h107
noncomputable def f_law41_NetworkKnows_b2 (P : Program) (T : Tab) (D : DTab) (N : Nat) {β : Type} (xn : AV → AV → AV → AV → AV → AV → Hp → Option β) (x0 : AV → AV → AV → Hp → Option β) (xr : AV → Hp → Option β) (v9 : AV) (v14 : AV) (v16 : AV) (v102 : AV) (v103 : AV) (v104 : AV) (h : Hp) : Option β :=
arithK .lss v104 v103 fun x108 =>
condK x108 (
iaK 10 v102 v104 fun x109 =>
ldK 10 true x109 h fun x110 =>
effK (boxE 10 (.agg [.s (.int .i64 0), .s (.int .i64 0), .s (.int .i64 0), .s (.int .i64 0), .s (.int .i64 0), .s (.int .i64 0), .s (.int .i64 0), .s (.int .i64 0), .s (.int .i64 0), .s (.int .i64 0)]) (List.length h)) h fun x111 h112 =>
effK (stE 10 x111 x110 h112) h112 fun x113 h114 =>
faK 3 x111 fun x115 =>
ldK 7 true x115 h114 fun x116 =>
callK (T 37) [v9, x116] h114 fun x117 h118 =>
notK x117 fun x119 =>
condK x119 (
xr (.s (.bool false)) h118) (
arithK .add v104 (.s (.int .i64 1)) fun x120 =>
xn v9 v14 v16 v102 v103 x120 h118)) (
x0 v9 v14 v16 h)
noncomputable def f_law41_NetworkKnows_L2 (P : Program) (T : Tab) (D : DTab) (N : Nat) {β : Type} (x0 : AV → AV → AV → Hp → Option β) (xr : AV → Hp → Option β) : Nat → AV → AV → AV → AV → AV → AV → Hp → Option β
  | 0 => fun _ _ _ _ _ _ _ => none
  | n + 1 => fun v9 v14 v16 v102 v103 v104 h => f_law41_NetworkKnows_b2 P T D N (f_law41_NetworkKnows_L2 P T D N x0 xr n) x0 xr v9 v14 v16 v102 v103 v104 h
noncomputable def f_law41_NetworkKnows (P : Program) (T : Tab) (D : DTab) (N : Nat) {β : Type} (K : AV → Hp → Option β) (a0 : AV) (a1 : AV) (a2 : AV) (a3 : AV) (h : Hp) : Option β :=
callK (T 10) [] h fun x1 h2 =>
notK x1 fun x3 =>
condK x3 (
K (.s (.bool false)) h2) (
callK (T 29) [a0, a1] h2 fun x4 h5 =>
notK x4 fun x6 =>
grpK false x6 h5 (fun k7 =>
lenK a0 fun x8 =>
eqK P false 3 x8 (.s (.int .i64 0)) h5 fun x9 =>
k7 x9 h5) fun x10 h11 =>
condK x10 (
K (.s (.bool true)) h11) (
callK (T 13) [a0] h11 fun x12 h13 =>
callK (T 16) [a1] h13 fun x14 h15 =>
callK (T 18) [x12, x14, a2] h15 fun x16 h17 =>
exK x16 0 fun x18 =>
exK x16 1 fun x19 =>
eqK P true 26 x19 (.s (.int .i64 0)) h17 fun x20 =>
condK x20 (
lenK x18 fun x21 =>
eqK P false 3 x21 (.s (.int .i64 0)) h17 fun x22 =>
K x22 h17) (
effK (bsE 1 [.s (.slice none 0 0)] 2 [(0, a1), (1, a1)] (List.length h17)) h17 fun x23 h24 =>
callK (T 35) [x23] h24 fun x25 h26 =>
callK (T 34) [x25] h26 fun x27 h28 =>
callK (T 13) [a0] h28 fun x29 h30 =>
callK (T 18) [x29, x25, a2] h30 fun x31 h32 =>
exK x31 0 fun x33 =>
exK x31 1 fun x34 =>
effD (callE (D 13) [a0] h32 (List.length h32)) h32 fun x35 h36 e37 =>
effD (callE (D 16) [a1] h36 (List.length h36)) h36 fun x38 h39 e40 =>
convK P 5 3 a3 fun x41 =>
lenK a0 fun x42 =>
reckK P .rem 3 x41 x42 fun x43 =>
effD (bsE 1 [.s (.int .i64 0)] 1 [(0, x43)] (List.length h39)) h39 fun x44 h45 e46 =>
effD (appE 1 8 x38 x44 h45 (List.length h45)) h45 fun x47 h48 e49 =>
effD (callE (D 18) [x35, x47, a2] h48 (List.length h48)) h48 fun x50 h51 e52 =>
exK x50 0 fun x53 =>
exK x50 1 fun x54 =>
effD (boxE 1 (.s (.slice none 0 0)) (List.length h51)) h51 fun x55 h56 e57 =>
effD (stE 1 x55 x53 h56) h56 fun x58 h59 e60 =>
bif disjAll [(1, 9), (3, 9), (1, 16), (3, 16), (9, 16), (10, 16), (12, 16)] [([], []), e37, ([], []), e40, ([], []), ([], []), ([], []), ([], []), ([], []), e46, e49, ([], []), e52, ([], []), ([], []), ([], []), e57, e60, ([], [])] then (
callK (T 13) [a0] h59 fun x61 h62 =>
callK (T 16) [a1] h62 fun x63 h64 =>
callK (T 15) [x61, x63, a2] h64 fun x65 h66 =>
exK x65 0 fun x67 =>
exK x65 1 fun x68 =>
effK (boxE 1 (.s (.slice none 0 0)) (List.length h66)) h66 fun x69 h70 =>
effK (stE 1 x69 x67 h70) h70 fun x71 h72 =>
eqK P true 26 x34 (.s (.int .i64 0)) h72 fun x73 =>
grpK false x73 h72 (fun k74 =>
eqK P true 26 x54 (.s (.int .i64 0)) h72 fun x75 =>
k74 x75 h72) fun x76 h77 =>
grpK false x76 h77 (fun k78 =>
eqK P true 26 x68 (.s (.int .i64 0)) h77 fun x79 =>
k78 x79 h77) fun x80 h81 =>
grpK false x80 h81 (fun k82 =>
callK (T 36) [x18, x33] h81 fun x83 h84 =>
notK x83 fun x85 =>
k82 x85 h84) fun x86 h87 =>
condK x86 (
K (.s (.bool false)) h87) (
ldK 1 false x69 h87 fun x88 =>
lenK x88 fun x89 =>
f_law41_NetworkKnows_L2 P T D N (fun w121_9 w121_14 w121_16 h => f_law41_NetworkKnows_j1 P T D N K w121_9 w121_14 w121_16 h) (fun w122_8 h => K w122_8 h) N x18 x55 x69 x88 x89 (.s (.int .i64 0)) h87)) else none)))
theorem f_law41_NetworkKnows_b2_eq (P : Program) (T : Tab) (D : DTab) (N : Nat) {β : Type} (xn : AV → AV → AV → AV → AV → AV → Hp → Option β) (x0 : AV → AV → AV → Hp → Option β) (xr : AV → Hp → Option β) (xd : Nat → St → Option β) (xq : St → Option β) (t : Tm) (h : Hp) : o_law41_NetworkKnows_L2 P T D N t h (fun (e : Ex) (s : St) => e.on (xn (s.1 9) (s.1 14) (s.1 16) (s.1 102) (s.1 103) (s.1 104) s.2) (fun i => (bif i == 0 then x0 (s.1 9) (s.1 14) (s.1 16) s.2 else (xd i s))) (xr (s.1 8) s.2)) = f_law41_NetworkKnows_b2 P T D N xn x0 xr (t 9) (t 14) (t 16) (t 102) (t 103) (t 104) h := by kernel_rfl
theorem f_law41_NetworkKnows_L2_eq (P : Program) (T : Tab) (D : DTab) (N : Nat) {β : Type} (A : Ex → St → Option β) (x0 : AV → AV → AV → Hp → Option β) (xr : AV → Hp → Option β) (q0 : ∀ s, A (.exit 0) s = x0 (s.1 9) (s.1 14) (s.1 16) s.2) (qr : ∀ s, A .ret s = xr (s.1 8) s.2) : ∀ (n : Nat) (s : St), iterK (fun s k => o_law41_NetworkKnows_L2 P T D N s.1 s.2 k) n s A = f_law41_NetworkKnows_L2 P T D N x0 xr n (s.1 9) (s.1 14) (s.1 16) (s.1 102) (s.1 103) (s.1 104) s.2 := by
  intro n
  induction n with
  | zero => intro s; rfl
  | succ n ih =>
    intro s
    have hk : (fun (e : Ex) (s' : St) => Ex.on e (iterK (fun s k => o_law41_NetworkKnows_L2 P T D N s.1 s.2 k) n s' A) (fun i => A (.exit i) s') (A .ret s')) = (fun (e : Ex) (s : St) => e.on ((f_law41_NetworkKnows_L2 P T D N x0 xr n) (s.1 9) (s.1 14) (s.1 16) (s.1 102) (s.1 103) (s.1 104) s.2) (fun i => (bif i == 0 then x0 (s.1 9) (s.1 14) (s.1 16) s.2 else (A (.exit i) s))) (xr (s.1 8) s.2)) := by
      funext e s'
      cases e with
      | normal => exact ih s'
      | ret => exact qr s'
      | exit i =>
        by_cases r0 : i = 0
        · subst r0; exact q0 s'
        simp only [Ex.on, beq_false_of_ne r0, cond_false]
    show o_law41_NetworkKnows_L2 P T D N s.1 s.2 (fun (e : Ex) (s' : St) => Ex.on e (iterK (fun s k => o_law41_NetworkKnows_L2 P T D N s.1 s.2 k) n s' A) (fun i => A (.exit i) s') (A .ret s')) = _
    rw [hk]
    exact f_law41_NetworkKnows_b2_eq P T D N (f_law41_NetworkKnows_L2 P T D N x0 xr n) x0 xr (fun i s => A (.exit i) s) (fun s => A .ret s) s.1 s.2
theorem f_law41_NetworkKnows_old_eq (P : Program) (T : Tab) (D : DTab) (N : Nat) {β : Type} (K : AV → Hp → Option β) (a0 : AV) (a1 : AV) (a2 : AV) (a3 : AV) (h : Hp) : o_law41_NetworkKnows P T D N K a0 a1 a2 a3 h = f_law41_NetworkKnows P T D N K a0 a1 a2 a3 h := by
  have eL2 : (fun s : St => iterK (fun s k => o_law41_NetworkKnows_L2 P T D N s.1 s.2 k) N s (o_law41_NetworkKnows_aL2 P T D N K)) = (fun s : St => f_law41_NetworkKnows_L2 P T D N (fun w121_9 w121_14 w121_16 h => f_law41_NetworkKnows_j1 P T D N K w121_9 w121_14 w121_16 h) (fun w122_8 h => K w122_8 h) N (s.1 9) (s.1 14) (s.1 16) (s.1 102) (s.1 103) (s.1 104) s.2) := funext fun s => f_law41_NetworkKnows_L2_eq P T D N (o_law41_NetworkKnows_aL2 P T D N K) (fun w121_9 w121_14 w121_16 h => f_law41_NetworkKnows_j1 P T D N K w121_9 w121_14 w121_16 h) (fun w122_8 h => K w122_8 h) (fun s => rfl) (fun s => rfl) N s
  show o_law41_NetworkKnows_G P T D N (fun s => iterK (fun s k => o_law41_NetworkKnows_L2 P T D N s.1 s.2 k) N s (o_law41_NetworkKnows_aL2 P T D N K)) K a0 a1 a2 a3 h = _
  rw [eL2]
  kernel_rfl
theorem o_law41_NetworkKnows_run (T : Tab) (D : DTab) (N : Nat) {β : Type} (K : AV → Hp → Option β) (a0 : AV) (a1 : AV) (a2 : AV) (a3 : AV) (h : Hp) : runK Try.prog T D N [0, 1, 2, 3, 8, 9, 10, 11, 12, 13, 14, 15, 16, 17, 19, 20, 21, 23, 32, 43, 101, 102, 103, 104, 105, 112] Try.f8 K [a0, a1, a2, a3] h = o_law41_NetworkKnows Try.prog T D N K a0 a1 a2 a3 h := by kernel_rfl
theorem f_law41_NetworkKnows_run (T : Tab) (D : DTab) (N : Nat) {β : Type} (K : AV → Hp → Option β) (a0 : AV) (a1 : AV) (a2 : AV) (a3 : AV) (h : Hp) : runK Try.prog T D N [0, 1, 2, 3, 8, 9, 10, 11, 12, 13, 14, 15, 16, 17, 19, 20, 21, 23, 32, 43, 101, 102, 103, 104, 105, 112] Try.f8 K [a0, a1, a2, a3] h = f_law41_NetworkKnows Try.prog T D N K a0 a1 a2 a3 h := (o_law41_NetworkKnows_run T D N K a0 a1 a2 a3 h).trans (f_law41_NetworkKnows_old_eq Try.prog T D N K a0 a1 a2 a3 h)
noncomputable def f_law41_awake (P : Program) (T : Tab) (D : DTab) (N : Nat) {β : Type} (K : AV → Hp → Option β) (h : Hp) : Option β :=
effK (bsE 1 [.s (.int .i64 0)] 3 [(0, (.s (.int .i64 2))), (1, (.s (.int .i64 0))), (2, (.s (.int .i64 2)))] (List.length h)) h fun x1 h2 =>
callK (T 45) [] h2 fun x3 h4 =>
callK (T 15) [x3, x1, (.s (.int .i64 2))] h4 fun x5 h6 =>
exK x5 0 fun x7 =>
exK x5 1 fun x8 =>
callK (T 45) [] h6 fun x9 h10 =>
callK (T 22) [x9, x1] h10 fun x11 h12 =>
exK x11 0 fun x13 =>
exK x11 1 fun x14 =>
callK (T 45) [] h12 fun x15 h16 =>
callK (T 24) [x15, x1] h16 fun x17 h18 =>
exK x17 0 fun x19 =>
exK x17 1 fun x20 =>
callK (T 45) [] h18 fun x21 h22 =>
callK (T 26) [x21, x1] h22 fun x23 h24 =>
exK x23 0 fun x25 =>
exK x23 1 fun x26 =>
callK (T 45) [] h24 fun x27 h28 =>
callK (T 18) [x27, x1, (.s (.int .i64 2))] h28 fun x29 h30 =>
exK x29 0 fun x31 =>
exK x29 1 fun x32 =>
lenK x7 fun x33 =>
eqK P false 3 x33 (.s (.int .i64 3)) h30 fun x34 =>
grpK true x34 h30 (fun k35 =>
iaK 10 x7 (.s (.int .i64 0)) fun x36 =>
faK 2 x36 fun x37 =>
ldK 1 false x37 h30 fun x38 =>
eqK P false 3 x38 (.s (.int .i64 3)) h30 fun x39 =>
k35 x39 h30) fun x40 h41 =>
grpK true x40 h41 (fun k42 =>
iaK 10 x7 (.s (.int .i64 1)) fun x43 =>
faK 2 x43 fun x44 =>
ldK 1 false x44 h41 fun x45 =>
eqK P false 3 x45 (.s (.int .i64 1)) h41 fun x46 =>
k42 x46 h41) fun x47 h48 =>
grpK true x47 h48 (fun k49 =>
effK (bsE 1 [.s (.int .i64 0)] 1 [(0, (.s (.int .i64 1)))] (List.length h48)) h48 fun x50 h51 =>
callK (T 46) [x13, x50] h51 fun x52 h53 =>
k49 x52 h53) fun x54 h55 =>
grpK true x54 h55 (fun k56 =>
eqK P false 3 x19 (.s (.int .i64 1)) h55 fun x57 =>
k56 x57 h55) fun x58 h59 =>
grpK true x58 h59 (fun k60 =>
eqK P false 3 x25 (.s (.int .i64 1)) h59 fun x61 =>
k60 x61 h59) fun x62 h63 =>
grpK true x62 h63 (fun k64 =>
lenK x31 fun x65 =>
eqK P false 3 x65 (.s (.int .i64 2)) h63 fun x66 =>
k64 x66 h63) fun x67 h68 =>
grpK true x67 h68 (fun k69 =>
arithK .add x8 x14 fun x70 =>
arithK .add x70 x20 fun x71 =>
arithK .add x71 x26 fun x72 =>
arithK .add x72 x32 fun x73 =>
eqK P false 26 x73 (.s (.int .i64 0)) h68 fun x74 =>
k69 x74 h68) fun x75 h76 =>
K x75 h76
theorem f_law41_awake_run (T : Tab) (D : DTab) (N : Nat) {β : Type} (K : AV → Hp → Option β) (h : Hp) : runK Try.prog T D N [0, 1, 2, 3, 4, 5, 6, 7, 8, 9, 10, 11] Try.f10 K [] h = f_law41_awake Try.prog T D N K  h := by kernel_rfl
noncomputable def o_network_Check_j1 (P : Program) (T : Tab) (D : DTab) (N : Nat) {β : Type} (K : AV → Hp → Option β) (t : Tm) (h : Hp) : Option β :=
K (.tup [(.s (.int .i64 (-1))), (.s (.int .i64 0))]) h
noncomputable def o_network_Check_L2 (P : Program) (T : Tab) (D : DTab) (N : Nat) {β : Type} (t : Tm) (h : Hp) (k : Ex → St → Option β) : Option β :=
arithK .lss (t 13) (t 12) fun x6 =>
condK x6 (
iaK 10 (t 11) (t 13) fun x7 =>
ldK 10 true x7 h fun x8 =>
effK (boxE 10 (.agg [.s (.int .i64 0), .s (.int .i64 0), .s (.int .i64 0), .s (.int .i64 0), .s (.int .i64 0), .s (.int .i64 0), .s (.int .i64 0), .s (.int .i64 0), .s (.int .i64 0), .s (.int .i64 0)]) (List.length h)) h fun x9 h10 =>
effK (stE 10 x9 x8 h10) h10 fun x11 h12 =>
faK 0 x9 fun x13 =>
ldK 1 false x13 h12 fun x14 =>
arithK .lss x14 (.s (.int .i64 1)) fun x15 =>
grpK false x15 h12 (fun k16 =>
faK 0 x9 fun x17 =>
ldK 1 false x17 h12 fun x18 =>
arithK .gtr x18 (.s (.int .i64 99)) fun x19 =>
k16 x19 h12) fun x20 h21 =>
grpK false x20 h21 (fun k22 =>
faK 1 x9 fun x23 =>
ldK 1 false x23 h21 fun x24 =>
arithK .lss x24 (.s (.int .i64 1)) fun x25 =>
k22 x25 h21) fun x26 h27 =>
grpK false x26 h27 (fun k28 =>
faK 1 x9 fun x29 =>
ldK 1 false x29 h27 fun x30 =>
arithK .gtr x30 (.s (.int .i64 99)) fun x31 =>
k28 x31 h27) fun x32 h33 =>
grpK false x32 h33 (fun k34 =>
faK 2 x9 fun x35 =>
ldK 1 false x35 h33 fun x36 =>
arithK .lss x36 (.s (.int .i64 1)) fun x37 =>
k34 x37 h33) fun x38 h39 =>
grpK false x38 h39 (fun k40 =>
faK 2 x9 fun x41 =>
ldK 1 false x41 h39 fun x42 =>
arithK .gtr x42 (.s (.int .i64 1073741824)) fun x43 =>
k40 x43 h39) fun x44 h45 =>
condK x44 (
k .ret ((upd (upd (upd (upd (upd (upd t 14 x6) 6 x9) 5 (t 13)) 18 x44) 2 (t 13)) 3 (.s (.int .i64 2))), h45)) (
faK 0 x9 fun x46 =>
ldK 1 false x46 h45 fun x47 =>
faK 1 x9 fun x48 =>
ldK 1 false x48 h45 fun x49 =>
eqK P false 3 x47 x49 h45 fun x50 =>
condK x50 (
k .ret ((upd (upd (upd (upd (upd (upd (upd t 14 x6) 6 x9) 5 (t 13)) 18 x44) 48 x50) 2 (t 13)) 3 (.s (.int .i64 10))), h45)) (
faK 3 x9 fun x51 =>
ldK 7 true x51 h45 fun x52 =>
callK (T 47) [x52] h45 fun x53 h54 =>
eqK P true 26 x53 (.s (.int .i64 0)) h54 fun x55 =>
condK x55 (
k .ret ((upd (upd (upd (upd (upd (upd (upd (upd t 14 x6) 6 x9) 5 (t 13)) 18 x44) 48 x50) 55 x55) 2 (t 13)) 3 (.s (.int .i64 1))), h54)) (
faK 0 x9 fun x56 =>
ldK 1 false x56 h54 fun x57 =>
faK 2 x9 fun x58 =>
ldK 1 false x58 h54 fun x59 =>
buildK [.s (.int .i64 0), .s (.int .i64 0)] [(some (0, 1), x57), (some (1, 1), x59)] fun x60 =>
lookK P 73 (.s (.bool false)) false (t 4) x60 h54 fun x61 =>
condK x61 (
k .ret ((upd (upd (upd (upd (upd (upd (upd (upd (upd t 14 x6) 6 x9) 5 (t 13)) 18 x44) 48 x50) 55 x55) 61 x61) 2 (t 13)) 3 (.s (.int .i64 6))), h54)) (
faK 0 x9 fun x62 =>
ldK 1 false x62 h54 fun x63 =>
faK 2 x9 fun x64 =>
ldK 1 false x64 h54 fun x65 =>
buildK [.s (.int .i64 0), .s (.int .i64 0)] [(some (0, 1), x63), (some (1, 1), x65)] fun x66 =>
effK (mupE P 73 (t 4) x66 (.s (.bool true)) h54) h54 fun x67 h68 =>
arithK .add (t 13) (.s (.int .i64 1)) fun x69 =>
k .normal ((upd (upd (upd (upd (upd (upd (upd (upd t 14 x6) 6 x9) 5 (t 13)) 18 x44) 48 x50) 55 x55) 61 x61) 13 x69), h68)))))) (
k (.exit 0) ((upd t 14 x6), h))
noncomputable def o_network_Check_aL2 (P : Program) (T : Tab) (D : DTab) (N : Nat) {β : Type} (K : AV → Hp → Option β) (e : Ex) (s : St) : Option β :=
  e.on ((o_network_Check_j1 P T D N K s.1 s.2))
  (fun i => bif i == 0 then ((o_network_Check_j1 P T D N K s.1 s.2)) else (none))
  (K (.tup [(s.1 2), (s.1 3)]) s.2)
noncomputable def o_network_Check_G (P : Program) (T : Tab) (D : DTab) (N : Nat) {β : Type} (cL2 : St → Option β) (K : AV → Hp → Option β) (a0 : AV) (h : Hp) :  Option β :=
lenK a0 fun x1 =>
arithK .gtr x1 (.s (.int .i64 64)) fun x2 =>
condK x2 (
K (.tup [(.s (.int .i64 (-1))), (.s (.int .i64 8))]) h) (
effK (some (.mp (List.length h), EN (.map []))) h fun x3 h4 =>
lenK a0 fun x5 =>
cL2 ((upd (upd (upd (upd (upd (upd (upd (tm0 [a0]) 2 (.s (.int .i64 0))) 3 (.s (.int .i64 0))) 9 x2) 4 x3) 11 a0) 12 x5) 13 (.s (.int .i64 0))), h4))
noncomputable def o_network_Check (P : Program) (T : Tab) (D : DTab) (N : Nat) {β : Type} (K : AV → Hp → Option β) (a0 : AV) (h : Hp) : Option β := o_network_Check_G P T D N (fun s => iterK (fun s k => o_network_Check_L2 P T D N s.1 s.2 k) N s (o_network_Check_aL2 P T D N K)) K a0 h
noncomputable def f_network_Check_j1 (P : Program) (T : Tab) (D : DTab) (N : Nat) {β : Type} (K : AV → Hp → Option β) (h : Hp) : Option β :=
K (.tup [(.s (.int .i64 (-1))), (.s (.int .i64 0))]) h
noncomputable def f_network_Check_b2 (P : Program) (T : Tab) (D : DTab) (N : Nat) {β : Type} (xn : AV → AV → AV → AV → Hp → Option β) (x0 : Hp → Option β) (xr : AV → AV → Hp → Option β) (v4 : AV) (v11 : AV) (v12 : AV) (v13 : AV) (h : Hp) : Option β :=
arithK .lss v13 v12 fun x6 =>
condK x6 (
iaK 10 v11 v13 fun x7 =>
ldK 10 true x7 h fun x8 =>
effK (boxE 10 (.agg [.s (.int .i64 0), .s (.int .i64 0), .s (.int .i64 0), .s (.int .i64 0), .s (.int .i64 0), .s (.int .i64 0), .s (.int .i64 0), .s (.int .i64 0), .s (.int .i64 0), .s (.int .i64 0)]) (List.length h)) h fun x9 h10 =>
effK (stE 10 x9 x8 h10) h10 fun x11 h12 =>
faK 0 x9 fun x13 =>
ldK 1 false x13 h12 fun x14 =>
arithK .lss x14 (.s (.int .i64 1)) fun x15 =>
grpK false x15 h12 (fun k16 =>
faK 0 x9 fun x17 =>
ldK 1 false x17 h12 fun x18 =>
arithK .gtr x18 (.s (.int .i64 99)) fun x19 =>
k16 x19 h12) fun x20 h21 =>
grpK false x20 h21 (fun k22 =>
faK 1 x9 fun x23 =>
ldK 1 false x23 h21 fun x24 =>
arithK .lss x24 (.s (.int .i64 1)) fun x25 =>
k22 x25 h21) fun x26 h27 =>
grpK false x26 h27 (fun k28 =>
faK 1 x9 fun x29 =>
ldK 1 false x29 h27 fun x30 =>
arithK .gtr x30 (.s (.int .i64 99)) fun x31 =>
k28 x31 h27) fun x32 h33 =>
grpK false x32 h33 (fun k34 =>
faK 2 x9 fun x35 =>
ldK 1 false x35 h33 fun x36 =>
arithK .lss x36 (.s (.int .i64 1)) fun x37 =>
k34 x37 h33) fun x38 h39 =>
grpK false x38 h39 (fun k40 =>
faK 2 x9 fun x41 =>
ldK 1 false x41 h39 fun x42 =>
arithK .gtr x42 (.s (.int .i64 1073741824)) fun x43 =>
k40 x43 h39) fun x44 h45 =>
condK x44 (
xr v13 (.s (.int .i64 2)) h45) (
faK 0 x9 fun x46 =>
ldK 1 false x46 h45 fun x47 =>
faK 1 x9 fun x48 =>
ldK 1 false x48 h45 fun x49 =>
eqK P false 3 x47 x49 h45 fun x50 =>
condK x50 (
xr v13 (.s (.int .i64 10)) h45) (
faK 3 x9 fun x51 =>
ldK 7 true x51 h45 fun x52 =>
callK (T 47) [x52] h45 fun x53 h54 =>
eqK P true 26 x53 (.s (.int .i64 0)) h54 fun x55 =>
condK x55 (
xr v13 (.s (.int .i64 1)) h54) (
faK 0 x9 fun x56 =>
ldK 1 false x56 h54 fun x57 =>
faK 2 x9 fun x58 =>
ldK 1 false x58 h54 fun x59 =>
buildK [.s (.int .i64 0), .s (.int .i64 0)] [(some (0, 1), x57), (some (1, 1), x59)] fun x60 =>
lookK P 73 (.s (.bool false)) false v4 x60 h54 fun x61 =>
condK x61 (
xr v13 (.s (.int .i64 6)) h54) (
faK 0 x9 fun x62 =>
ldK 1 false x62 h54 fun x63 =>
faK 2 x9 fun x64 =>
ldK 1 false x64 h54 fun x65 =>
buildK [.s (.int .i64 0), .s (.int .i64 0)] [(some (0, 1), x63), (some (1, 1), x65)] fun x66 =>
effK (mupE P 73 v4 x66 (.s (.bool true)) h54) h54 fun x67 h68 =>
arithK .add v13 (.s (.int .i64 1)) fun x69 =>
xn v4 v11 v12 x69 h68))))) (
x0 h)
noncomputable def f_network_Check_L2 (P : Program) (T : Tab) (D : DTab) (N : Nat) {β : Type} (x0 : Hp → Option β) (xr : AV → AV → Hp → Option β) : Nat → AV → AV → AV → AV → Hp → Option β
  | 0 => fun _ _ _ _ _ => none
  | n + 1 => fun v4 v11 v12 v13 h => f_network_Check_b2 P T D N (f_network_Check_L2 P T D N x0 xr n) x0 xr v4 v11 v12 v13 h
noncomputable def f_network_Check (P : Program) (T : Tab) (D : DTab) (N : Nat) {β : Type} (K : AV → Hp → Option β) (a0 : AV) (h : Hp) : Option β :=
lenK a0 fun x1 =>
arithK .gtr x1 (.s (.int .i64 64)) fun x2 =>
condK x2 (
K (.tup [(.s (.int .i64 (-1))), (.s (.int .i64 8))]) h) (
effK (some (.mp (List.length h), EN (.map []))) h fun x3 h4 =>
lenK a0 fun x5 =>
f_network_Check_L2 P T D N (fun h => f_network_Check_j1 P T D N K h) (fun w71_2 w71_3 h => K (.tup [w71_2, w71_3]) h) N x3 a0 x5 (.s (.int .i64 0)) h4)
theorem f_network_Check_b2_eq (P : Program) (T : Tab) (D : DTab) (N : Nat) {β : Type} (xn : AV → AV → AV → AV → Hp → Option β) (x0 : Hp → Option β) (xr : AV → AV → Hp → Option β) (xd : Nat → St → Option β) (xq : St → Option β) (t : Tm) (h : Hp) : o_network_Check_L2 P T D N t h (fun (e : Ex) (s : St) => e.on (xn (s.1 4) (s.1 11) (s.1 12) (s.1 13) s.2) (fun i => (bif i == 0 then x0 s.2 else (xd i s))) (xr (s.1 2) (s.1 3) s.2)) = f_network_Check_b2 P T D N xn x0 xr (t 4) (t 11) (t 12) (t 13) h := by kernel_rfl
theorem f_network_Check_L2_eq (P : Program) (T : Tab) (D : DTab) (N : Nat) {β : Type} (A : Ex → St → Option β) (x0 : Hp → Option β) (xr : AV → AV → Hp → Option β) (q0 : ∀ s, A (.exit 0) s = x0 s.2) (qr : ∀ s, A .ret s = xr (s.1 2) (s.1 3) s.2) : ∀ (n : Nat) (s : St), iterK (fun s k => o_network_Check_L2 P T D N s.1 s.2 k) n s A = f_network_Check_L2 P T D N x0 xr n (s.1 4) (s.1 11) (s.1 12) (s.1 13) s.2 := by
  intro n
  induction n with
  | zero => intro s; rfl
  | succ n ih =>
    intro s
    have hk : (fun (e : Ex) (s' : St) => Ex.on e (iterK (fun s k => o_network_Check_L2 P T D N s.1 s.2 k) n s' A) (fun i => A (.exit i) s') (A .ret s')) = (fun (e : Ex) (s : St) => e.on ((f_network_Check_L2 P T D N x0 xr n) (s.1 4) (s.1 11) (s.1 12) (s.1 13) s.2) (fun i => (bif i == 0 then x0 s.2 else (A (.exit i) s))) (xr (s.1 2) (s.1 3) s.2)) := by
      funext e s'
      cases e with
      | normal => exact ih s'
      | ret => exact qr s'
      | exit i =>
        by_cases r0 : i = 0
        · subst r0; exact q0 s'
        simp only [Ex.on, beq_false_of_ne r0, cond_false]
    show o_network_Check_L2 P T D N s.1 s.2 (fun (e : Ex) (s' : St) => Ex.on e (iterK (fun s k => o_network_Check_L2 P T D N s.1 s.2 k) n s' A) (fun i => A (.exit i) s') (A .ret s')) = _
    rw [hk]
    exact f_network_Check_b2_eq P T D N (f_network_Check_L2 P T D N x0 xr n) x0 xr (fun i s => A (.exit i) s) (fun s => A .ret s) s.1 s.2
theorem f_network_Check_old_eq (P : Program) (T : Tab) (D : DTab) (N : Nat) {β : Type} (K : AV → Hp → Option β) (a0 : AV) (h : Hp) : o_network_Check P T D N K a0 h = f_network_Check P T D N K a0 h := by
  have eL2 : (fun s : St => iterK (fun s k => o_network_Check_L2 P T D N s.1 s.2 k) N s (o_network_Check_aL2 P T D N K)) = (fun s : St => f_network_Check_L2 P T D N (fun h => f_network_Check_j1 P T D N K h) (fun w71_2 w71_3 h => K (.tup [w71_2, w71_3]) h) N (s.1 4) (s.1 11) (s.1 12) (s.1 13) s.2) := funext fun s => f_network_Check_L2_eq P T D N (o_network_Check_aL2 P T D N K) (fun h => f_network_Check_j1 P T D N K h) (fun w71_2 w71_3 h => K (.tup [w71_2, w71_3]) h) (fun s => rfl) (fun s => rfl) N s
  show o_network_Check_G P T D N (fun s => iterK (fun s k => o_network_Check_L2 P T D N s.1 s.2 k) N s (o_network_Check_aL2 P T D N K)) K a0 h = _
  rw [eL2]
  kernel_rfl
theorem o_network_Check_run (T : Tab) (D : DTab) (N : Nat) {β : Type} (K : AV → Hp → Option β) (a0 : AV) (h : Hp) : runK Try.prog T D N [0, 2, 3, 4, 5, 6, 9, 11, 12, 13, 14, 18, 48, 55, 61] Try.f12 K [a0] h = o_network_Check Try.prog T D N K a0 h := by kernel_rfl
theorem f_network_Check_run (T : Tab) (D : DTab) (N : Nat) {β : Type} (K : AV → Hp → Option β) (a0 : AV) (h : Hp) : runK Try.prog T D N [0, 2, 3, 4, 5, 6, 9, 11, 12, 13, 14, 18, 48, 55, 61] Try.f12 K [a0] h = f_network_Check Try.prog T D N K a0 h := (o_network_Check_run T D N K a0 h).trans (f_network_Check_old_eq Try.prog T D N K a0 h)
noncomputable def f_slices_Clone_Envelope (P : Program) (T : Tab) (D : DTab) (N : Nat) {β : Type} (K : AV → Hp → Option β) (a0 : AV) (h : Hp) : Option β :=
eqK P false 22 a0 (.s (.slice none 0 0)) h fun x1 =>
condK x1 (
K (.s (.slice none 0 0)) h) (
effK (bsE 10 [.s (.int .i64 0), .s (.int .i64 0), .s (.int .i64 0), .s (.int .i64 0), .s (.int .i64 0), .s (.int .i64 0), .s (.int .i64 0), .s (.int .i64 0), .s (.int .i64 0), .s (.int .i64 0)] 0 [] (List.length h)) h fun x2 h3 =>
effK (appE 10 80 x2 a0 h3 (List.length h3)) h3 fun x4 h5 =>
K x4 h5)
theorem f_slices_Clone_Envelope_run (T : Tab) (D : DTab) (N : Nat) {β : Type} (K : AV → Hp → Option β) (a0 : AV) (h : Hp) : runK Try.prog T D N [0, 2, 4] Try.f13 K [a0] h = f_slices_Clone_Envelope Try.prog T D N K a0 h := by kernel_rfl
noncomputable def f_network_Deliver (P : Program) (T : Tab) (D : DTab) (N : Nat) {β : Type} (K : AV → Hp → Option β) (a0 : AV) (a1 : AV) (a2 : AV) (h : Hp) : Option β :=
callK (T 49) [a0, a1, a2] h fun x1 h2 =>
exK x1 0 fun x3 =>
exK x1 1 fun x4 =>
K (.tup [x3, x4]) h2
theorem f_network_Deliver_run (T : Tab) (D : DTab) (N : Nat) {β : Type} (K : AV → Hp → Option β) (a0 : AV) (a1 : AV) (a2 : AV) (h : Hp) : runK Try.prog T D N [0, 1, 2, 6, 7] Try.f15 K [a0, a1, a2] h = f_network_Deliver Try.prog T D N K a0 a1 a2 h := by kernel_rfl
noncomputable def f_slices_Clone_int (P : Program) (T : Tab) (D : DTab) (N : Nat) {β : Type} (K : AV → Hp → Option β) (a0 : AV) (h : Hp) : Option β :=
eqK P false 23 a0 (.s (.slice none 0 0)) h fun x1 =>
condK x1 (
K (.s (.slice none 0 0)) h) (
effK (bsE 1 [.s (.int .i64 0)] 0 [] (List.length h)) h fun x2 h3 =>
effK (appE 1 8 x2 a0 h3 (List.length h3)) h3 fun x4 h5 =>
K x4 h5)
theorem f_slices_Clone_int_run (T : Tab) (D : DTab) (N : Nat) {β : Type} (K : AV → Hp → Option β) (a0 : AV) (h : Hp) : runK Try.prog T D N [0, 2, 4] Try.f16 K [a0] h = f_slices_Clone_int Try.prog T D N K a0 h := by kernel_rfl
noncomputable def o_network_Known_j1 (P : Program) (T : Tab) (D : DTab) (N : Nat) {β : Type} (K : AV → Hp → Option β) (t : Tm) (h : Hp) : Option β :=
callK (T 38) [(t 10)] h fun x7 h8 =>
exK x7 0 fun x9 =>
exK x7 1 fun x10 =>
K (.tup [x9, x10]) h8
noncomputable def o_network_Known_j3 (P : Program) (T : Tab) (D : DTab) (N : Nat) {β : Type} (k : Ex → St → Option β) (t : Tm) (h : Hp) : Option β :=
arithK .add (t 25) (.s (.int .i64 1)) fun x12 =>
k .normal ((upd t 25 x12), h)
noncomputable def o_network_Known_j4 (P : Program) (T : Tab) (D : DTab) (N : Nat) {β : Type} (k : Ex → St → Option β) (t : Tm) (h : Hp) : Option β :=
(o_network_Known_j3 P T D N k t h)
noncomputable def o_network_Known_L2 (P : Program) (T : Tab) (D : DTab) (N : Nat) {β : Type} (t : Tm) (h : Hp) (k : Ex → St → Option β) : Option β :=
arithK .lss (t 25) (t 24) fun x11 =>
condK x11 (
iaK 10 (t 23) (t 25) fun x13 =>
ldK 10 true x13 h fun x14 =>
effK (boxE 10 (.agg [.s (.int .i64 0), .s (.int .i64 0), .s (.int .i64 0), .s (.int .i64 0), .s (.int .i64 0), .s (.int .i64 0), .s (.int .i64 0), .s (.int .i64 0), .s (.int .i64 0), .s (.int .i64 0)]) (List.length h)) h fun x15 h16 =>
effK (stE 10 x15 x14 h16) h16 fun x17 h18 =>
faK 3 x15 fun x19 =>
ldK 7 true x19 h18 fun x20 =>
callK (T 37) [(t 10), x20] h18 fun x21 h22 =>
notK x21 fun x23 =>
condK x23 (
faK 3 x15 fun x24 =>
ldK 7 true x24 h22 fun x25 =>
effK (bsE 7 [.s (.int .i64 0), .s (.int .i64 0), .s (.int .i64 0), .s (.int .i64 0), .s (.int .i64 0), .s (.int .i64 0), .s (.int .i64 0)] 1 [(0, x25)] (List.length h22)) h22 fun x26 h27 =>
effK (appE 7 56 (t 10) x26 h27 (List.length h27)) h27 fun x28 h29 =>
(o_network_Known_j4 P T D N k (upd (upd (upd (upd t 26 x11) 12 x15) 33 x23) 10 x28) h29)) (
(o_network_Known_j4 P T D N k (upd (upd (upd t 26 x11) 12 x15) 33 x23) h22))) (
k (.exit 0) ((upd t 26 x11), h))
noncomputable def o_network_Known_aL2 (P : Program) (T : Tab) (D : DTab) (N : Nat) {β : Type} (K : AV → Hp → Option β) (e : Ex) (s : St) : Option β :=
  e.on ((o_network_Known_j1 P T D N K s.1 s.2))
  (fun i => bif i == 0 then ((o_network_Known_j1 P T D N K s.1 s.2)) else (none))
  (K (.tup [(s.1 6), (s.1 7)]) s.2)
noncomputable def o_network_Known_G (P : Program) (T : Tab) (D : DTab) (N : Nat) {β : Type} (cL2 : St → Option β) (K : AV → Hp → Option β) (a0 : AV) (a1 : AV) (a2 : AV) (h : Hp) :  Option β :=
callK (T 49) [a0, a1, a2] h fun x1 h2 =>
exK x1 0 fun x3 =>
exK x1 1 fun x4 =>
eqK P true 26 x4 (.s (.int .i64 0)) h2 fun x5 =>
condK x5 (
K (.tup [(.s (.slice none 0 0)), x4]) h2) (
lenK x3 fun x6 =>
cL2 ((upd (upd (upd (upd (upd (upd (upd (upd (upd (tm0 [a0, a1, a2]) 6 (.s (.slice none 0 0))) 7 (.s (.int .i64 0))) 8 x3) 9 x4) 21 x5) 10 (.s (.slice none 0 0))) 23 x3) 24 x6) 25 (.s (.int .i64 0))), h2))
noncomputable def o_network_Known (P : Program) (T : Tab) (D : DTab) (N : Nat) {β : Type} (K : AV → Hp → Option β) (a0 : AV) (a1 : AV) (a2 : AV) (h : Hp) : Option β := o_network_Known_G P T D N (fun s => iterK (fun s k => o_network_Known_L2 P T D N s.1 s.2 k) N s (o_network_Known_aL2 P T D N K)) K a0 a1 a2 h
noncomputable def f_network_Known_j1 (P : Program) (T : Tab) (D : DTab) (N : Nat) {β : Type} (K : AV → Hp → Option β) (v10 : AV) (h : Hp) : Option β :=
callK (T 38) [v10] h fun x7 h8 =>
exK x7 0 fun x9 =>
exK x7 1 fun x10 =>
K (.tup [x9, x10]) h8
noncomputable def f_network_Known_j3 (P : Program) (T : Tab) (D : DTab) (N : Nat) {β : Type} (xn : AV → AV → AV → AV → Hp → Option β) (x0 : AV → Hp → Option β) (v10 : AV) (v23 : AV) (v24 : AV) (v25 : AV) (h : Hp) : Option β :=
arithK .add v25 (.s (.int .i64 1)) fun x12 =>
xn v10 v23 v24 x12 h
noncomputable def f_network_Known_j4 (P : Program) (T : Tab) (D : DTab) (N : Nat) {β : Type} (xn : AV → AV → AV → AV → Hp → Option β) (x0 : AV → Hp → Option β) (v10 : AV) (v23 : AV) (v24 : AV) (v25 : AV) (h : Hp) : Option β :=
f_network_Known_j3 P T D N xn x0 v10 v23 v24 v25 h
noncomputable def f_network_Known_b2 (P : Program) (T : Tab) (D : DTab) (N : Nat) {β : Type} (xn : AV → AV → AV → AV → Hp → Option β) (x0 : AV → Hp → Option β) (v10 : AV) (v23 : AV) (v24 : AV) (v25 : AV) (h : Hp) : Option β :=
arithK .lss v25 v24 fun x11 =>
condK x11 (
iaK 10 v23 v25 fun x13 =>
ldK 10 true x13 h fun x14 =>
effK (boxE 10 (.agg [.s (.int .i64 0), .s (.int .i64 0), .s (.int .i64 0), .s (.int .i64 0), .s (.int .i64 0), .s (.int .i64 0), .s (.int .i64 0), .s (.int .i64 0), .s (.int .i64 0), .s (.int .i64 0)]) (List.length h)) h fun x15 h16 =>
effK (stE 10 x15 x14 h16) h16 fun x17 h18 =>
faK 3 x15 fun x19 =>
ldK 7 true x19 h18 fun x20 =>
callK (T 37) [v10, x20] h18 fun x21 h22 =>
notK x21 fun x23 =>
condK x23 (
faK 3 x15 fun x24 =>
ldK 7 true x24 h22 fun x25 =>
effK (bsE 7 [.s (.int .i64 0), .s (.int .i64 0), .s (.int .i64 0), .s (.int .i64 0), .s (.int .i64 0), .s (.int .i64 0), .s (.int .i64 0)] 1 [(0, x25)] (List.length h22)) h22 fun x26 h27 =>
effK (appE 7 56 v10 x26 h27 (List.length h27)) h27 fun x28 h29 =>
f_network_Known_j4 P T D N xn x0 x28 v23 v24 v25 h29) (
f_network_Known_j4 P T D N xn x0 v10 v23 v24 v25 h22)) (
x0 v10 h)
noncomputable def f_network_Known_L2 (P : Program) (T : Tab) (D : DTab) (N : Nat) {β : Type} (x0 : AV → Hp → Option β) : Nat → AV → AV → AV → AV → Hp → Option β
  | 0 => fun _ _ _ _ _ => none
  | n + 1 => fun v10 v23 v24 v25 h => f_network_Known_b2 P T D N (f_network_Known_L2 P T D N x0 n) x0 v10 v23 v24 v25 h
noncomputable def f_network_Known (P : Program) (T : Tab) (D : DTab) (N : Nat) {β : Type} (K : AV → Hp → Option β) (a0 : AV) (a1 : AV) (a2 : AV) (h : Hp) : Option β :=
callK (T 49) [a0, a1, a2] h fun x1 h2 =>
exK x1 0 fun x3 =>
exK x1 1 fun x4 =>
eqK P true 26 x4 (.s (.int .i64 0)) h2 fun x5 =>
condK x5 (
K (.tup [(.s (.slice none 0 0)), x4]) h2) (
lenK x3 fun x6 =>
f_network_Known_L2 P T D N (fun w30_10 h => f_network_Known_j1 P T D N K w30_10 h) N (.s (.slice none 0 0)) x3 x6 (.s (.int .i64 0)) h2)
theorem f_network_Known_b2_eq (P : Program) (T : Tab) (D : DTab) (N : Nat) {β : Type} (xn : AV → AV → AV → AV → Hp → Option β) (x0 : AV → Hp → Option β) (xd : Nat → St → Option β) (xq : St → Option β) (t : Tm) (h : Hp) : o_network_Known_L2 P T D N t h (fun (e : Ex) (s : St) => e.on (xn (s.1 10) (s.1 23) (s.1 24) (s.1 25) s.2) (fun i => (bif i == 0 then x0 (s.1 10) s.2 else (xd i s))) (xq s)) = f_network_Known_b2 P T D N xn x0 (t 10) (t 23) (t 24) (t 25) h := by kernel_rfl
theorem f_network_Known_L2_eq (P : Program) (T : Tab) (D : DTab) (N : Nat) {β : Type} (A : Ex → St → Option β) (x0 : AV → Hp → Option β) (q0 : ∀ s, A (.exit 0) s = x0 (s.1 10) s.2) : ∀ (n : Nat) (s : St), iterK (fun s k => o_network_Known_L2 P T D N s.1 s.2 k) n s A = f_network_Known_L2 P T D N x0 n (s.1 10) (s.1 23) (s.1 24) (s.1 25) s.2 := by
  intro n
  induction n with
  | zero => intro s; rfl
  | succ n ih =>
    intro s
    have hk : (fun (e : Ex) (s' : St) => Ex.on e (iterK (fun s k => o_network_Known_L2 P T D N s.1 s.2 k) n s' A) (fun i => A (.exit i) s') (A .ret s')) = (fun (e : Ex) (s : St) => e.on ((f_network_Known_L2 P T D N x0 n) (s.1 10) (s.1 23) (s.1 24) (s.1 25) s.2) (fun i => (bif i == 0 then x0 (s.1 10) s.2 else (A (.exit i) s))) (A .ret s)) := by
      funext e s'
      cases e with
      | normal => exact ih s'
      | ret => exact rfl
      | exit i =>
        by_cases r0 : i = 0
        · subst r0; exact q0 s'
        simp only [Ex.on, beq_false_of_ne r0, cond_false]
    show o_network_Known_L2 P T D N s.1 s.2 (fun (e : Ex) (s' : St) => Ex.on e (iterK (fun s k => o_network_Known_L2 P T D N s.1 s.2 k) n s' A) (fun i => A (.exit i) s') (A .ret s')) = _
    rw [hk]
    exact f_network_Known_b2_eq P T D N (f_network_Known_L2 P T D N x0 n) x0 (fun i s => A (.exit i) s) (fun s => A .ret s) s.1 s.2
theorem f_network_Known_old_eq (P : Program) (T : Tab) (D : DTab) (N : Nat) {β : Type} (K : AV → Hp → Option β) (a0 : AV) (a1 : AV) (a2 : AV) (h : Hp) : o_network_Known P T D N K a0 a1 a2 h = f_network_Known P T D N K a0 a1 a2 h := by
  have eL2 : (fun s : St => iterK (fun s k => o_network_Known_L2 P T D N s.1 s.2 k) N s (o_network_Known_aL2 P T D N K)) = (fun s : St => f_network_Known_L2 P T D N (fun w30_10 h => f_network_Known_j1 P T D N K w30_10 h) N (s.1 10) (s.1 23) (s.1 24) (s.1 25) s.2) := funext fun s => f_network_Known_L2_eq P T D N (o_network_Known_aL2 P T D N K) (fun w30_10 h => f_network_Known_j1 P T D N K w30_10 h) (fun s => rfl) N s
  show o_network_Known_G P T D N (fun s => iterK (fun s k => o_network_Known_L2 P T D N s.1 s.2 k) N s (o_network_Known_aL2 P T D N K)) K a0 a1 a2 h = _
  rw [eL2]
  kernel_rfl
theorem o_network_Known_run (T : Tab) (D : DTab) (N : Nat) {β : Type} (K : AV → Hp → Option β) (a0 : AV) (a1 : AV) (a2 : AV) (h : Hp) : runK Try.prog T D N [0, 1, 2, 6, 7, 8, 9, 10, 12, 21, 23, 24, 25, 26, 33] Try.f18 K [a0, a1, a2] h = o_network_Known Try.prog T D N K a0 a1 a2 h := by kernel_rfl
theorem f_network_Known_run (T : Tab) (D : DTab) (N : Nat) {β : Type} (K : AV → Hp → Option β) (a0 : AV) (a1 : AV) (a2 : AV) (h : Hp) : runK Try.prog T D N [0, 1, 2, 6, 7, 8, 9, 10, 12, 21, 23, 24, 25, 26, 33] Try.f18 K [a0, a1, a2] h = f_network_Known Try.prog T D N K a0 a1 a2 h := (o_network_Known_run T D N K a0 a1 a2 h).trans (f_network_Known_old_eq Try.prog T D N K a0 a1 a2 h)
noncomputable def o_network_Lost_j1 (P : Program) (T : Tab) (D : DTab) (N : Nat) {β : Type} (K : AV → Hp → Option β) (t : Tm) (h : Hp) : Option β :=
K (.tup [(t 8), (.s (.int .i64 0))]) h
noncomputable def o_network_Lost_j3 (P : Program) (T : Tab) (D : DTab) (N : Nat) {β : Type} (k : Ex → St → Option β) (t : Tm) (h : Hp) : Option β :=
arithK .add (t 23) (.s (.int .i64 1)) fun x8 =>
k .normal ((upd t 23 x8), h)
noncomputable def o_network_Lost_j4 (P : Program) (T : Tab) (D : DTab) (N : Nat) {β : Type} (k : Ex → St → Option β) (t : Tm) (h : Hp) : Option β :=
(o_network_Lost_j3 P T D N k t h)
noncomputable def o_network_Lost_L2 (P : Program) (T : Tab) (D : DTab) (N : Nat) {β : Type} (t : Tm) (h : Hp) (k : Ex → St → Option β) : Option β :=
arithK .lss (t 23) (t 22) fun x7 =>
condK x7 (
lookK P 3 (.s (.int .i64 0)) true (t 7) (t 23) h fun x9 =>
exK x9 0 fun x10 =>
exK x9 1 fun x11 =>
notK x11 fun x12 =>
condK x12 (
effK (bsE 1 [.s (.int .i64 0)] 1 [(0, (t 23))] (List.length h)) h fun x13 h14 =>
effK (appE 1 8 (t 8) x13 h14 (List.length h14)) h14 fun x15 h16 =>
(o_network_Lost_j4 P T D N k (upd (upd (upd (upd (upd t 24 x7) 9 (t 23)) 11 x11) 33 x12) 8 x15) h16)) (
(o_network_Lost_j4 P T D N k (upd (upd (upd (upd t 24 x7) 9 (t 23)) 11 x11) 33 x12) h))) (
k (.exit 0) ((upd t 24 x7), h))
noncomputable def o_network_Lost_aL2 (P : Program) (T : Tab) (D : DTab) (N : Nat) {β : Type} (K : AV → Hp → Option β) (e : Ex) (s : St) : Option β :=
  e.on ((o_network_Lost_j1 P T D N K s.1 s.2))
  (fun i => bif i == 0 then ((o_network_Lost_j1 P T D N K s.1 s.2)) else (none))
  (K (.tup [(s.1 4), (s.1 5)]) s.2)
noncomputable def o_network_Lost_G (P : Program) (T : Tab) (D : DTab) (N : Nat) {β : Type} (cL2 : St → Option β) (K : AV → Hp → Option β) (a0 : AV) (a1 : AV) (h : Hp) :  Option β :=
callK (T 53) [a0, a1] h fun x1 h2 =>
eqK P true 26 x1 (.s (.int .i64 0)) h2 fun x3 =>
condK x3 (
K (.tup [(.s (.slice none 0 0)), x1]) h2) (
callK (T 54) [a0, a1] h2 fun x4 h5 =>
lenK a0 fun x6 =>
cL2 ((upd (upd (upd (upd (upd (upd (upd (upd (tm0 [a0, a1]) 4 (.s (.slice none 0 0))) 5 (.s (.int .i64 0))) 6 x1) 16 x3) 7 x4) 8 (.s (.slice none 0 0))) 22 x6) 23 (.s (.int .i64 0))), h5))
noncomputable def o_network_Lost (P : Program) (T : Tab) (D : DTab) (N : Nat) {β : Type} (K : AV → Hp → Option β) (a0 : AV) (a1 : AV) (h : Hp) : Option β := o_network_Lost_G P T D N (fun s => iterK (fun s k => o_network_Lost_L2 P T D N s.1 s.2 k) N s (o_network_Lost_aL2 P T D N K)) K a0 a1 h
noncomputable def f_network_Lost_j1 (P : Program) (T : Tab) (D : DTab) (N : Nat) {β : Type} (K : AV → Hp → Option β) (v8 : AV) (h : Hp) : Option β :=
K (.tup [v8, (.s (.int .i64 0))]) h
noncomputable def f_network_Lost_j3 (P : Program) (T : Tab) (D : DTab) (N : Nat) {β : Type} (xn : AV → AV → AV → AV → Hp → Option β) (x0 : AV → Hp → Option β) (v7 : AV) (v8 : AV) (v22 : AV) (v23 : AV) (h : Hp) : Option β :=
arithK .add v23 (.s (.int .i64 1)) fun x8 =>
xn v7 v8 v22 x8 h
noncomputable def f_network_Lost_j4 (P : Program) (T : Tab) (D : DTab) (N : Nat) {β : Type} (xn : AV → AV → AV → AV → Hp → Option β) (x0 : AV → Hp → Option β) (v7 : AV) (v8 : AV) (v22 : AV) (v23 : AV) (h : Hp) : Option β :=
f_network_Lost_j3 P T D N xn x0 v7 v8 v22 v23 h
noncomputable def f_network_Lost_b2 (P : Program) (T : Tab) (D : DTab) (N : Nat) {β : Type} (xn : AV → AV → AV → AV → Hp → Option β) (x0 : AV → Hp → Option β) (v7 : AV) (v8 : AV) (v22 : AV) (v23 : AV) (h : Hp) : Option β :=
arithK .lss v23 v22 fun x7 =>
condK x7 (
lookK P 3 (.s (.int .i64 0)) true v7 v23 h fun x9 =>
exK x9 0 fun x10 =>
exK x9 1 fun x11 =>
notK x11 fun x12 =>
condK x12 (
effK (bsE 1 [.s (.int .i64 0)] 1 [(0, v23)] (List.length h)) h fun x13 h14 =>
effK (appE 1 8 v8 x13 h14 (List.length h14)) h14 fun x15 h16 =>
f_network_Lost_j4 P T D N xn x0 v7 x15 v22 v23 h16) (
f_network_Lost_j4 P T D N xn x0 v7 v8 v22 v23 h)) (
x0 v8 h)
noncomputable def f_network_Lost_L2 (P : Program) (T : Tab) (D : DTab) (N : Nat) {β : Type} (x0 : AV → Hp → Option β) : Nat → AV → AV → AV → AV → Hp → Option β
  | 0 => fun _ _ _ _ _ => none
  | n + 1 => fun v7 v8 v22 v23 h => f_network_Lost_b2 P T D N (f_network_Lost_L2 P T D N x0 n) x0 v7 v8 v22 v23 h
noncomputable def f_network_Lost (P : Program) (T : Tab) (D : DTab) (N : Nat) {β : Type} (K : AV → Hp → Option β) (a0 : AV) (a1 : AV) (h : Hp) : Option β :=
callK (T 53) [a0, a1] h fun x1 h2 =>
eqK P true 26 x1 (.s (.int .i64 0)) h2 fun x3 =>
condK x3 (
K (.tup [(.s (.slice none 0 0)), x1]) h2) (
callK (T 54) [a0, a1] h2 fun x4 h5 =>
lenK a0 fun x6 =>
f_network_Lost_L2 P T D N (fun w17_8 h => f_network_Lost_j1 P T D N K w17_8 h) N x4 (.s (.slice none 0 0)) x6 (.s (.int .i64 0)) h5)
theorem f_network_Lost_b2_eq (P : Program) (T : Tab) (D : DTab) (N : Nat) {β : Type} (xn : AV → AV → AV → AV → Hp → Option β) (x0 : AV → Hp → Option β) (xd : Nat → St → Option β) (xq : St → Option β) (t : Tm) (h : Hp) : o_network_Lost_L2 P T D N t h (fun (e : Ex) (s : St) => e.on (xn (s.1 7) (s.1 8) (s.1 22) (s.1 23) s.2) (fun i => (bif i == 0 then x0 (s.1 8) s.2 else (xd i s))) (xq s)) = f_network_Lost_b2 P T D N xn x0 (t 7) (t 8) (t 22) (t 23) h := by kernel_rfl
theorem f_network_Lost_L2_eq (P : Program) (T : Tab) (D : DTab) (N : Nat) {β : Type} (A : Ex → St → Option β) (x0 : AV → Hp → Option β) (q0 : ∀ s, A (.exit 0) s = x0 (s.1 8) s.2) : ∀ (n : Nat) (s : St), iterK (fun s k => o_network_Lost_L2 P T D N s.1 s.2 k) n s A = f_network_Lost_L2 P T D N x0 n (s.1 7) (s.1 8) (s.1 22) (s.1 23) s.2 := by
  intro n
  induction n with
  | zero => intro s; rfl
  | succ n ih =>
    intro s
    have hk : (fun (e : Ex) (s' : St) => Ex.on e (iterK (fun s k => o_network_Lost_L2 P T D N s.1 s.2 k) n s' A) (fun i => A (.exit i) s') (A .ret s')) = (fun (e : Ex) (s : St) => e.on ((f_network_Lost_L2 P T D N x0 n) (s.1 7) (s.1 8) (s.1 22) (s.1 23) s.2) (fun i => (bif i == 0 then x0 (s.1 8) s.2 else (A (.exit i) s))) (A .ret s)) := by
      funext e s'
      cases e with
      | normal => exact ih s'
      | ret => exact rfl
      | exit i =>
        by_cases r0 : i = 0
        · subst r0; exact q0 s'
        simp only [Ex.on, beq_false_of_ne r0, cond_false]
    show o_network_Lost_L2 P T D N s.1 s.2 (fun (e : Ex) (s' : St) => Ex.on e (iterK (fun s k => o_network_Lost_L2 P T D N s.1 s.2 k) n s' A) (fun i => A (.exit i) s') (A .ret s')) = _
    rw [hk]
    exact f_network_Lost_b2_eq P T D N (f_network_Lost_L2 P T D N x0 n) x0 (fun i s => A (.exit i) s) (fun s => A .ret s) s.1 s.2
theorem f_network_Lost_old_eq (P : Program) (T : Tab) (D : DTab) (N : Nat) {β : Type} (K : AV → Hp → Option β) (a0 : AV) (a1 : AV) (h : Hp) : o_network_Lost P T D N K a0 a1 h = f_network_Lost P T D N K a0 a1 h := by
  have eL2 : (fun s : St => iterK (fun s k => o_network_Lost_L2 P T D N s.1 s.2 k) N s (o_network_Lost_aL2 P T D N K)) = (fun s : St => f_network_Lost_L2 P T D N (fun w17_8 h => f_network_Lost_j1 P T D N K w17_8 h) N (s.1 7) (s.1 8) (s.1 22) (s.1 23) s.2) := funext fun s => f_network_Lost_L2_eq P T D N (o_network_Lost_aL2 P T D N K) (fun w17_8 h => f_network_Lost_j1 P T D N K w17_8 h) (fun s => rfl) N s
  show o_network_Lost_G P T D N (fun s => iterK (fun s k => o_network_Lost_L2 P T D N s.1 s.2 k) N s (o_network_Lost_aL2 P T D N K)) K a0 a1 h = _
  rw [eL2]
  kernel_rfl
theorem o_network_Lost_run (T : Tab) (D : DTab) (N : Nat) {β : Type} (K : AV → Hp → Option β) (a0 : AV) (a1 : AV) (h : Hp) : runK Try.prog T D N [0, 1, 4, 5, 6, 7, 8, 9, 11, 16, 22, 23, 24, 33] Try.f22 K [a0, a1] h = o_network_Lost Try.prog T D N K a0 a1 h := by kernel_rfl
theorem f_network_Lost_run (T : Tab) (D : DTab) (N : Nat) {β : Type} (K : AV → Hp → Option β) (a0 : AV) (a1 : AV) (h : Hp) : runK Try.prog T D N [0, 1, 4, 5, 6, 7, 8, 9, 11, 16, 22, 23, 24, 33] Try.f22 K [a0, a1] h = f_network_Lost Try.prog T D N K a0 a1 h := (o_network_Lost_run T D N K a0 a1 h).trans (f_network_Lost_old_eq Try.prog T D N K a0 a1 h)
noncomputable def f_network_Repeated (P : Program) (T : Tab) (D : DTab) (N : Nat) {β : Type} (K : AV → Hp → Option β) (a0 : AV) (a1 : AV) (h : Hp) : Option β :=
callK (T 53) [a0, a1] h fun x1 h2 =>
eqK P true 26 x1 (.s (.int .i64 0)) h2 fun x3 =>
condK x3 (
K (.tup [(.s (.int .i64 0)), x1]) h2) (
lenK a1 fun x4 =>
callK (T 54) [a0, a1] h2 fun x5 h6 =>
lenM x5 h6 fun x7 =>
arithK .sub x4 x7 fun x8 =>
K (.tup [x8, (.s (.int .i64 0))]) h6)
theorem f_network_Repeated_run (T : Tab) (D : DTab) (N : Nat) {β : Type} (K : AV → Hp → Option β) (a0 : AV) (a1 : AV) (h : Hp) : runK Try.prog T D N [0, 1, 4, 5, 6, 11] Try.f24 K [a0, a1] h = f_network_Repeated Try.prog T D N K a0 a1 h := by kernel_rfl
noncomputable def o_network_Crossed_j1 (P : Program) (T : Tab) (D : DTab) (N : Nat) {β : Type} (K : AV → Hp → Option β) (t : Tm) (h : Hp) : Option β :=
K (.tup [(t 8), (.s (.int .i64 0))]) h
noncomputable def o_network_Crossed_j3 (P : Program) (T : Tab) (D : DTab) (N : Nat) {β : Type} (k : Ex → St → Option β) (t : Tm) (h : Hp) : Option β :=
k .normal (t, h)
noncomputable def o_network_Crossed_j4 (P : Program) (T : Tab) (D : DTab) (N : Nat) {β : Type} (k : Ex → St → Option β) (t : Tm) (h : Hp) : Option β :=
(o_network_Crossed_j3 P T D N k t h)
noncomputable def o_network_Crossed_j6 (P : Program) (T : Tab) (D : DTab) (N : Nat) {β : Type} (k : Ex → St → Option β) (t : Tm) (h : Hp) : Option β :=
k .normal (t, h)
noncomputable def o_network_Crossed_L5 (P : Program) (T : Tab) (D : DTab) (N : Nat) {β : Type} (t : Tm) (h : Hp) (k : Ex → St → Option β) : Option β :=
nextK (t 30) h fun x16 h17 =>
exK x16 0 fun x18 =>
condK x18 (
entryK (t 30) h17 fun x19 =>
exK x19 0 fun x20 =>
exK x19 1 fun x21 =>
arithK .lss (t 9) x20 fun x22 =>
grpK true x22 h17 (fun k23 =>
arithK .gtr (t 10) x21 fun x24 =>
k23 x24 h17) fun x25 h26 =>
condK x25 (
arithK .add (t 8) (.s (.int .i64 1)) fun x27 =>
(o_network_Crossed_j6 P T D N k (upd (upd (upd (upd (upd t 32 x18) 11 x20) 12 x21) 43 x25) 8 x27) h26)) (
(o_network_Crossed_j6 P T D N k (upd (upd (upd (upd t 32 x18) 11 x20) 12 x21) 43 x25) h26))) (
k (.exit 2) ((upd t 32 x18), h17))
noncomputable def o_network_Crossed_aL5 (P : Program) (T : Tab) (D : DTab) (N : Nat) {β : Type} (k : Ex → St → Option β) (e : Ex) (s : St) : Option β :=
  e.on ((o_network_Crossed_j4 P T D N k s.1 s.2))
  (fun i => bif i == 2 then ((o_network_Crossed_j4 P T D N k s.1 s.2)) else (bif i == 1 then ((o_network_Crossed_j3 P T D N k s.1 s.2)) else (k (.exit i) (s.1, s.2))))
  (k .ret (s.1, s.2))
noncomputable def o_network_Crossed_L2_G (P : Program) (T : Tab) (D : DTab) (N : Nat) {β : Type} (cL5 : St → Option β) (t : Tm) (h : Hp) (k : Ex → St → Option β) :  Option β :=
nextK (t 23) h fun x8 h9 =>
exK x8 0 fun x10 =>
condK x10 (
entryK (t 23) h9 fun x11 =>
exK x11 0 fun x12 =>
exK x11 1 fun x13 =>
effK (rngE (t 7) h9 (List.length h9)) h9 fun x14 h15 =>
cL5 ((upd (upd (upd (upd t 25 x10) 9 x12) 10 x13) 30 x14), h15)) (
k (.exit 0) ((upd t 25 x10), h9))
noncomputable def o_network_Crossed_L2 (P : Program) (T : Tab) (D : DTab) (N : Nat) {β : Type} (t : Tm) (h : Hp) (k : Ex → St → Option β) : Option β := o_network_Crossed_L2_G P T D N (fun s => iterK (fun s k => o_network_Crossed_L5 P T D N s.1 s.2 k) N s (o_network_Crossed_aL5 P T D N k)) t h k
noncomputable def o_network_Crossed_aL2 (P : Program) (T : Tab) (D : DTab) (N : Nat) {β : Type} (K : AV → Hp → Option β) (e : Ex) (s : St) : Option β :=
  e.on ((o_network_Crossed_j1 P T D N K s.1 s.2))
  (fun i => bif i == 0 then ((o_network_Crossed_j1 P T D N K s.1 s.2)) else (none))
  (K (.tup [(s.1 4), (s.1 5)]) s.2)
noncomputable def o_network_Crossed_G (P : Program) (T : Tab) (D : DTab) (N : Nat) {β : Type} (cL2 : St → Option β) (K : AV → Hp → Option β) (a0 : AV) (a1 : AV) (h : Hp) :  Option β :=
callK (T 53) [a0, a1] h fun x1 h2 =>
eqK P true 26 x1 (.s (.int .i64 0)) h2 fun x3 =>
condK x3 (
K (.tup [(.s (.int .i64 0)), x1]) h2) (
callK (T 54) [a0, a1] h2 fun x4 h5 =>
effK (rngE x4 h5 (List.length h5)) h5 fun x6 h7 =>
cL2 ((upd (upd (upd (upd (upd (upd (upd (tm0 [a0, a1]) 4 (.s (.int .i64 0))) 5 (.s (.int .i64 0))) 6 x1) 17 x3) 7 x4) 8 (.s (.int .i64 0))) 23 x6), h7))
noncomputable def o_network_Crossed (P : Program) (T : Tab) (D : DTab) (N : Nat) {β : Type} (K : AV → Hp → Option β) (a0 : AV) (a1 : AV) (h : Hp) : Option β := o_network_Crossed_G P T D N (fun s => iterK (fun s k => o_network_Crossed_L2 P T D N s.1 s.2 k) N s (o_network_Crossed_aL2 P T D N K)) K a0 a1 h
noncomputable def f_network_Crossed_j1 (P : Program) (T : Tab) (D : DTab) (N : Nat) {β : Type} (K : AV → Hp → Option β) (v8 : AV) (h : Hp) : Option β :=
K (.tup [v8, (.s (.int .i64 0))]) h
noncomputable def f_network_Crossed_j3 (P : Program) (T : Tab) (D : DTab) (N : Nat) {β : Type} (xn : AV → AV → AV → Hp → Option β) (x0 : AV → Hp → Option β) (v7 : AV) (v8 : AV) (v23 : AV) (h : Hp) : Option β :=
xn v7 v8 v23 h
noncomputable def f_network_Crossed_j4 (P : Program) (T : Tab) (D : DTab) (N : Nat) {β : Type} (xn : AV → AV → AV → Hp → Option β) (x0 : AV → Hp → Option β) (v7 : AV) (v8 : AV) (v23 : AV) (h : Hp) : Option β :=
f_network_Crossed_j3 P T D N xn x0 v7 v8 v23 h
noncomputable def f_network_Crossed_j6 (P : Program) (T : Tab) (D : DTab) (N : Nat) {β : Type} (xn : AV → AV → AV → AV → AV → AV → Hp → Option β) (x2 : AV → AV → AV → Hp → Option β) (v7 : AV) (v8 : AV) (v9 : AV) (v10 : AV) (v23 : AV) (v30 : AV) (h : Hp) : Option β :=
xn v7 v8 v9 v10 v23 v30 h
noncomputable def f_network_Crossed_b5 (P : Program) (T : Tab) (D : DTab) (N : Nat) {β : Type} (xn : AV → AV → AV → AV → AV → AV → Hp → Option β) (x2 : AV → AV → AV → Hp → Option β) (v7 : AV) (v8 : AV) (v9 : AV) (v10 : AV) (v23 : AV) (v30 : AV) (h : Hp) : Option β :=
nextK v30 h fun x16 h17 =>
exK x16 0 fun x18 =>
condK x18 (
entryK v30 h17 fun x19 =>
exK x19 0 fun x20 =>
exK x19 1 fun x21 =>
arithK .lss v9 x20 fun x22 =>
grpK true x22 h17 (fun k23 =>
arithK .gtr v10 x21 fun x24 =>
k23 x24 h17) fun x25 h26 =>
condK x25 (
arithK .add v8 (.s (.int .i64 1)) fun x27 =>
f_network_Crossed_j6 P T D N xn x2 v7 x27 v9 v10 v23 v30 h26) (
f_network_Crossed_j6 P T D N xn x2 v7 v8 v9 v10 v23 v30 h26)) (
x2 v7 v8 v23 h17)
noncomputable def f_network_Crossed_L5 (P : Program) (T : Tab) (D : DTab) (N : Nat) {β : Type} (x2 : AV → AV → AV → Hp → Option β) : Nat → AV → AV → AV → AV → AV → AV → Hp → Option β
  | 0 => fun _ _ _ _ _ _ _ => none
  | n + 1 => fun v7 v8 v9 v10 v23 v30 h => f_network_Crossed_b5 P T D N (f_network_Crossed_L5 P T D N x2 n) x2 v7 v8 v9 v10 v23 v30 h
noncomputable def f_network_Crossed_b2 (P : Program) (T : Tab) (D : DTab) (N : Nat) {β : Type} (xn : AV → AV → AV → Hp → Option β) (x0 : AV → Hp → Option β) (v7 : AV) (v8 : AV) (v23 : AV) (h : Hp) : Option β :=
nextK v23 h fun x8 h9 =>
exK x8 0 fun x10 =>
condK x10 (
entryK v23 h9 fun x11 =>
exK x11 0 fun x12 =>
exK x11 1 fun x13 =>
effK (rngE v7 h9 (List.length h9)) h9 fun x14 h15 =>
f_network_Crossed_L5 P T D N (fun w28_7 w28_8 w28_23 h => f_network_Crossed_j4 P T D N xn x0 w28_7 w28_8 w28_23 h) N v7 v8 x12 x13 v23 x14 h15) (
x0 v8 h9)
noncomputable def f_network_Crossed_L2 (P : Program) (T : Tab) (D : DTab) (N : Nat) {β : Type} (x0 : AV → Hp → Option β) : Nat → AV → AV → AV → Hp → Option β
  | 0 => fun _ _ _ _ => none
  | n + 1 => fun v7 v8 v23 h => f_network_Crossed_b2 P T D N (f_network_Crossed_L2 P T D N x0 n) x0 v7 v8 v23 h
noncomputable def f_network_Crossed (P : Program) (T : Tab) (D : DTab) (N : Nat) {β : Type} (K : AV → Hp → Option β) (a0 : AV) (a1 : AV) (h : Hp) : Option β :=
callK (T 53) [a0, a1] h fun x1 h2 =>
eqK P true 26 x1 (.s (.int .i64 0)) h2 fun x3 =>
condK x3 (
K (.tup [(.s (.int .i64 0)), x1]) h2) (
callK (T 54) [a0, a1] h2 fun x4 h5 =>
effK (rngE x4 h5 (List.length h5)) h5 fun x6 h7 =>
f_network_Crossed_L2 P T D N (fun w29_8 h => f_network_Crossed_j1 P T D N K w29_8 h) N x4 (.s (.int .i64 0)) x6 h7)
theorem f_network_Crossed_b5_eq (P : Program) (T : Tab) (D : DTab) (N : Nat) {β : Type} (xn : AV → AV → AV → AV → AV → AV → Hp → Option β) (x2 : AV → AV → AV → Hp → Option β) (xd : Nat → St → Option β) (xq : St → Option β) (t : Tm) (h : Hp) : o_network_Crossed_L5 P T D N t h (fun (e : Ex) (s : St) => e.on (xn (s.1 7) (s.1 8) (s.1 9) (s.1 10) (s.1 23) (s.1 30) s.2) (fun i => (bif i == 2 then x2 (s.1 7) (s.1 8) (s.1 23) s.2 else (xd i s))) (xq s)) = f_network_Crossed_b5 P T D N xn x2 (t 7) (t 8) (t 9) (t 10) (t 23) (t 30) h := by kernel_rfl
theorem f_network_Crossed_L5_eq (P : Program) (T : Tab) (D : DTab) (N : Nat) {β : Type} (A : Ex → St → Option β) (x2 : AV → AV → AV → Hp → Option β) (q2 : ∀ s, A (.exit 2) s = x2 (s.1 7) (s.1 8) (s.1 23) s.2) : ∀ (n : Nat) (s : St), iterK (fun s k => o_network_Crossed_L5 P T D N s.1 s.2 k) n s A = f_network_Crossed_L5 P T D N x2 n (s.1 7) (s.1 8) (s.1 9) (s.1 10) (s.1 23) (s.1 30) s.2 := by
  intro n
  induction n with
  | zero => intro s; rfl
  | succ n ih =>
    intro s
    have hk : (fun (e : Ex) (s' : St) => Ex.on e (iterK (fun s k => o_network_Crossed_L5 P T D N s.1 s.2 k) n s' A) (fun i => A (.exit i) s') (A .ret s')) = (fun (e : Ex) (s : St) => e.on ((f_network_Crossed_L5 P T D N x2 n) (s.1 7) (s.1 8) (s.1 9) (s.1 10) (s.1 23) (s.1 30) s.2) (fun i => (bif i == 2 then x2 (s.1 7) (s.1 8) (s.1 23) s.2 else (A (.exit i) s))) (A .ret s)) := by
      funext e s'
      cases e with
      | normal => exact ih s'
      | ret => exact rfl
      | exit i =>
        by_cases r2 : i = 2
        · subst r2; exact q2 s'
        simp only [Ex.on, beq_false_of_ne r2, cond_false]
    show o_network_Crossed_L5 P T D N s.1 s.2 (fun (e : Ex) (s' : St) => Ex.on e (iterK (fun s k => o_network_Crossed_L5 P T D N s.1 s.2 k) n s' A) (fun i => A (.exit i) s') (A .ret s')) = _
    rw [hk]
    exact f_network_Crossed_b5_eq P T D N (f_network_Crossed_L5 P T D N x2 n) x2 (fun i s => A (.exit i) s) (fun s => A .ret s) s.1 s.2
theorem f_network_Crossed_b2_eq (P : Program) (T : Tab) (D : DTab) (N : Nat) {β : Type} (xn : AV → AV → AV → Hp → Option β) (x0 : AV → Hp → Option β) (xd : Nat → St → Option β) (xq : St → Option β) (t : Tm) (h : Hp) : o_network_Crossed_L2 P T D N t h (fun (e : Ex) (s : St) => e.on (xn (s.1 7) (s.1 8) (s.1 23) s.2) (fun i => (bif i == 0 then x0 (s.1 8) s.2 else (xd i s))) (xq s)) = f_network_Crossed_b2 P T D N xn x0 (t 7) (t 8) (t 23) h := by
  have eL5 : (fun s : St => iterK (fun s k => o_network_Crossed_L5 P T D N s.1 s.2 k) N s (o_network_Crossed_aL5 P T D N (fun (e : Ex) (s : St) => e.on (xn (s.1 7) (s.1 8) (s.1 23) s.2) (fun i => (bif i == 0 then x0 (s.1 8) s.2 else (xd i s))) (xq s)))) = (fun s : St => f_network_Crossed_L5 P T D N (fun w28_7 w28_8 w28_23 h => f_network_Crossed_j4 P T D N xn x0 w28_7 w28_8 w28_23 h) N (s.1 7) (s.1 8) (s.1 9) (s.1 10) (s.1 23) (s.1 30) s.2) := funext fun s => f_network_Crossed_L5_eq P T D N (o_network_Crossed_aL5 P T D N (fun (e : Ex) (s : St) => e.on (xn (s.1 7) (s.1 8) (s.1 23) s.2) (fun i => (bif i == 0 then x0 (s.1 8) s.2 else (xd i s))) (xq s))) (fun w28_7 w28_8 w28_23 h => f_network_Crossed_j4 P T D N xn x0 w28_7 w28_8 w28_23 h) (fun s => rfl) N s
  show o_network_Crossed_L2_G P T D N (fun s => iterK (fun s k => o_network_Crossed_L5 P T D N s.1 s.2 k) N s (o_network_Crossed_aL5 P T D N (fun (e : Ex) (s : St) => e.on (xn (s.1 7) (s.1 8) (s.1 23) s.2) (fun i => (bif i == 0 then x0 (s.1 8) s.2 else (xd i s))) (xq s)))) t h (fun (e : Ex) (s : St) => e.on (xn (s.1 7) (s.1 8) (s.1 23) s.2) (fun i => (bif i == 0 then x0 (s.1 8) s.2 else (xd i s))) (xq s)) = _
  rw [eL5]
  kernel_rfl
theorem f_network_Crossed_L2_eq (P : Program) (T : Tab) (D : DTab) (N : Nat) {β : Type} (A : Ex → St → Option β) (x0 : AV → Hp → Option β) (q0 : ∀ s, A (.exit 0) s = x0 (s.1 8) s.2) : ∀ (n : Nat) (s : St), iterK (fun s k => o_network_Crossed_L2 P T D N s.1 s.2 k) n s A = f_network_Crossed_L2 P T D N x0 n (s.1 7) (s.1 8) (s.1 23) s.2 := by
  intro n
  induction n with
  | zero => intro s; rfl
  | succ n ih =>
    intro s
    have hk : (fun (e : Ex) (s' : St) => Ex.on e (iterK (fun s k => o_network_Crossed_L2 P T D N s.1 s.2 k) n s' A) (fun i => A (.exit i) s') (A .ret s')) = (fun (e : Ex) (s : St) => e.on ((f_network_Crossed_L2 P T D N x0 n) (s.1 7) (s.1 8) (s.1 23) s.2) (fun i => (bif i == 0 then x0 (s.1 8) s.2 else (A (.exit i) s))) (A .ret s)) := by
      funext e s'
      cases e with
      | normal => exact ih s'
      | ret => exact rfl
      | exit i =>
        by_cases r0 : i = 0
        · subst r0; exact q0 s'
        simp only [Ex.on, beq_false_of_ne r0, cond_false]
    show o_network_Crossed_L2 P T D N s.1 s.2 (fun (e : Ex) (s' : St) => Ex.on e (iterK (fun s k => o_network_Crossed_L2 P T D N s.1 s.2 k) n s' A) (fun i => A (.exit i) s') (A .ret s')) = _
    rw [hk]
    exact f_network_Crossed_b2_eq P T D N (f_network_Crossed_L2 P T D N x0 n) x0 (fun i s => A (.exit i) s) (fun s => A .ret s) s.1 s.2
theorem f_network_Crossed_old_eq (P : Program) (T : Tab) (D : DTab) (N : Nat) {β : Type} (K : AV → Hp → Option β) (a0 : AV) (a1 : AV) (h : Hp) : o_network_Crossed P T D N K a0 a1 h = f_network_Crossed P T D N K a0 a1 h := by
  have eL2 : (fun s : St => iterK (fun s k => o_network_Crossed_L2 P T D N s.1 s.2 k) N s (o_network_Crossed_aL2 P T D N K)) = (fun s : St => f_network_Crossed_L2 P T D N (fun w29_8 h => f_network_Crossed_j1 P T D N K w29_8 h) N (s.1 7) (s.1 8) (s.1 23) s.2) := funext fun s => f_network_Crossed_L2_eq P T D N (o_network_Crossed_aL2 P T D N K) (fun w29_8 h => f_network_Crossed_j1 P T D N K w29_8 h) (fun s => rfl) N s
  show o_network_Crossed_G P T D N (fun s => iterK (fun s k => o_network_Crossed_L2 P T D N s.1 s.2 k) N s (o_network_Crossed_aL2 P T D N K)) K a0 a1 h = _
  rw [eL2]
  kernel_rfl
theorem o_network_Crossed_run (T : Tab) (D : DTab) (N : Nat) {β : Type} (K : AV → Hp → Option β) (a0 : AV) (a1 : AV) (h : Hp) : runK Try.prog T D N [0, 1, 4, 5, 6, 7, 8, 9, 10, 11, 12, 17, 23, 25, 30, 32, 43] Try.f26 K [a0, a1] h = o_network_Crossed Try.prog T D N K a0 a1 h := by kernel_rfl
theorem f_network_Crossed_run (T : Tab) (D : DTab) (N : Nat) {β : Type} (K : AV → Hp → Option β) (a0 : AV) (a1 : AV) (h : Hp) : runK Try.prog T D N [0, 1, 4, 5, 6, 7, 8, 9, 10, 11, 12, 17, 23, 25, 30, 32, 43] Try.f26 K [a0, a1] h = f_network_Crossed Try.prog T D N K a0 a1 h := (o_network_Crossed_run T D N K a0 a1 h).trans (f_network_Crossed_old_eq Try.prog T D N K a0 a1 h)
noncomputable def f_law41_few (P : Program) (T : Tab) (D : DTab) (N : Nat) {β : Type} (K : AV → Hp → Option β) (a0 : AV) (a1 : AV) (h : Hp) : Option β :=
lenK a0 fun x1 =>
arithK .leq x1 (.s (.int .i64 14)) fun x2 =>
grpK true x2 h (fun k3 =>
lenK a1 fun x4 =>
arithK .leq x4 (.s (.int .i64 24)) fun x5 =>
k3 x5 h) fun x6 h7 =>
K x6 h7
theorem f_law41_few_run (T : Tab) (D : DTab) (N : Nat) {β : Type} (K : AV → Hp → Option β) (a0 : AV) (a1 : AV) (h : Hp) : runK Try.prog T D N [0, 1, 4] Try.f29 K [a0, a1] h = f_law41_few Try.prog T D N K a0 a1 h := by kernel_rfl
noncomputable def f_slices_ContainsFunc_Envelope (P : Program) (T : Tab) (D : DTab) (N : Nat) {β : Type} (K : AV → Hp → Option β) (a0 : AV) (a1 : AV) (h : Hp) : Option β :=
callK (T 57) [a0, a1] h fun x1 h2 =>
arithK .geq x1 (.s (.int .i64 0)) fun x3 =>
K x3 h2
theorem f_slices_ContainsFunc_Envelope_run (T : Tab) (D : DTab) (N : Nat) {β : Type} (K : AV → Hp → Option β) (a0 : AV) (a1 : AV) (h : Hp) : runK Try.prog T D N [0, 1, 4] Try.f31 K [a0, a1] h = f_slices_ContainsFunc_Envelope Try.prog T D N K a0 a1 h := by kernel_rfl
noncomputable def o_slices_Reverse_int_j1 (P : Program) (T : Tab) (D : DTab) (N : Nat) {β : Type} (K : AV → Hp → Option β) (t : Tm) (h : Hp) : Option β :=
K (.tup []) h
noncomputable def o_slices_Reverse_int_L2 (P : Program) (T : Tab) (D : DTab) (N : Nat) {β : Type} (t : Tm) (h : Hp) (k : Ex → St → Option β) : Option β :=
arithK .lss (t 2) (t 3) fun x3 =>
condK x3 (
iaK 1 (t 0) (t 3) fun x4 =>
ldK 1 false x4 h fun x5 =>
iaK 1 (t 0) (t 2) fun x6 =>
ldK 1 false x6 h fun x7 =>
iaK 1 (t 0) (t 2) fun x8 =>
effK (stE 1 x8 x5 h) h fun x9 h10 =>
iaK 1 (t 0) (t 3) fun x11 =>
effK (stE 1 x11 x7 h10) h10 fun x12 h13 =>
arithK .add (t 2) (.s (.int .i64 1)) fun x14 =>
arithK .sub (t 3) (.s (.int .i64 1)) fun x15 =>
k .normal ((upd (upd (upd t 9 x3) 2 x14) 3 x15), h13)) (
k (.exit 0) ((upd t 9 x3), h))
noncomputable def o_slices_Reverse_int_aL2 (P : Program) (T : Tab) (D : DTab) (N : Nat) {β : Type} (K : AV → Hp → Option β) (e : Ex) (s : St) : Option β :=
  e.on ((o_slices_Reverse_int_j1 P T D N K s.1 s.2))
  (fun i => bif i == 0 then ((o_slices_Reverse_int_j1 P T D N K s.1 s.2)) else (none))
  (K (.tup []) s.2)
noncomputable def o_slices_Reverse_int_G (P : Program) (T : Tab) (D : DTab) (N : Nat) {β : Type} (cL2 : St → Option β) (K : AV → Hp → Option β) (a0 : AV) (h : Hp) :  Option β :=
lenK a0 fun x1 =>
arithK .sub x1 (.s (.int .i64 1)) fun x2 =>
cL2 ((upd (upd (tm0 [a0]) 2 (.s (.int .i64 0))) 3 x2), h)
noncomputable def o_slices_Reverse_int (P : Program) (T : Tab) (D : DTab) (N : Nat) {β : Type} (K : AV → Hp → Option β) (a0 : AV) (h : Hp) : Option β := o_slices_Reverse_int_G P T D N (fun s => iterK (fun s k => o_slices_Reverse_int_L2 P T D N s.1 s.2 k) N s (o_slices_Reverse_int_aL2 P T D N K)) K a0 h
noncomputable def f_slices_Reverse_int_j1 (P : Program) (T : Tab) (D : DTab) (N : Nat) {β : Type} (K : AV → Hp → Option β) (h : Hp) : Option β :=
K (.tup []) h
noncomputable def f_slices_Reverse_int_b2 (P : Program) (T : Tab) (D : DTab) (N : Nat) {β : Type} (xn : AV → AV → AV → Hp → Option β) (x0 : Hp → Option β) (v0 : AV) (v2 : AV) (v3 : AV) (h : Hp) : Option β :=
arithK .lss v2 v3 fun x3 =>
condK x3 (
iaK 1 v0 v3 fun x4 =>
ldK 1 false x4 h fun x5 =>
iaK 1 v0 v2 fun x6 =>
ldK 1 false x6 h fun x7 =>
iaK 1 v0 v2 fun x8 =>
effK (stE 1 x8 x5 h) h fun x9 h10 =>
iaK 1 v0 v3 fun x11 =>
effK (stE 1 x11 x7 h10) h10 fun x12 h13 =>
arithK .add v2 (.s (.int .i64 1)) fun x14 =>
arithK .sub v3 (.s (.int .i64 1)) fun x15 =>
xn v0 x14 x15 h13) (
x0 h)
noncomputable def f_slices_Reverse_int_L2 (P : Program) (T : Tab) (D : DTab) (N : Nat) {β : Type} (x0 : Hp → Option β) : Nat → AV → AV → AV → Hp → Option β
  | 0 => fun _ _ _ _ => none
  | n + 1 => fun v0 v2 v3 h => f_slices_Reverse_int_b2 P T D N (f_slices_Reverse_int_L2 P T D N x0 n) x0 v0 v2 v3 h
noncomputable def f_slices_Reverse_int (P : Program) (T : Tab) (D : DTab) (N : Nat) {β : Type} (K : AV → Hp → Option β) (a0 : AV) (h : Hp) : Option β :=
lenK a0 fun x1 =>
arithK .sub x1 (.s (.int .i64 1)) fun x2 =>
f_slices_Reverse_int_L2 P T D N (fun h => f_slices_Reverse_int_j1 P T D N K h) N a0 (.s (.int .i64 0)) x2 h
theorem f_slices_Reverse_int_b2_eq (P : Program) (T : Tab) (D : DTab) (N : Nat) {β : Type} (xn : AV → AV → AV → Hp → Option β) (x0 : Hp → Option β) (xd : Nat → St → Option β) (xq : St → Option β) (t : Tm) (h : Hp) : o_slices_Reverse_int_L2 P T D N t h (fun (e : Ex) (s : St) => e.on (xn (s.1 0) (s.1 2) (s.1 3) s.2) (fun i => (bif i == 0 then x0 s.2 else (xd i s))) (xq s)) = f_slices_Reverse_int_b2 P T D N xn x0 (t 0) (t 2) (t 3) h := by kernel_rfl
theorem f_slices_Reverse_int_L2_eq (P : Program) (T : Tab) (D : DTab) (N : Nat) {β : Type} (A : Ex → St → Option β) (x0 : Hp → Option β) (q0 : ∀ s, A (.exit 0) s = x0 s.2) : ∀ (n : Nat) (s : St), iterK (fun s k => o_slices_Reverse_int_L2 P T D N s.1 s.2 k) n s A = f_slices_Reverse_int_L2 P T D N x0 n (s.1 0) (s.1 2) (s.1 3) s.2 := by
  intro n
  induction n with
  | zero => intro s; rfl
  | succ n ih =>
    intro s
    have hk : (fun (e : Ex) (s' : St) => Ex.on e (iterK (fun s k => o_slices_Reverse_int_L2 P T D N s.1 s.2 k) n s' A) (fun i => A (.exit i) s') (A .ret s')) = (fun (e : Ex) (s : St) => e.on ((f_slices_Reverse_int_L2 P T D N x0 n) (s.1 0) (s.1 2) (s.1 3) s.2) (fun i => (bif i == 0 then x0 s.2 else (A (.exit i) s))) (A .ret s)) := by
      funext e s'
      cases e with
      | normal => exact ih s'
      | ret => exact rfl
      | exit i =>
        by_cases r0 : i = 0
        · subst r0; exact q0 s'
        simp only [Ex.on, beq_false_of_ne r0, cond_false]
    show o_slices_Reverse_int_L2 P T D N s.1 s.2 (fun (e : Ex) (s' : St) => Ex.on e (iterK (fun s k => o_slices_Reverse_int_L2 P T D N s.1 s.2 k) n s' A) (fun i => A (.exit i) s') (A .ret s')) = _
    rw [hk]
    exact f_slices_Reverse_int_b2_eq P T D N (f_slices_Reverse_int_L2 P T D N x0 n) x0 (fun i s => A (.exit i) s) (fun s => A .ret s) s.1 s.2
theorem f_slices_Reverse_int_old_eq (P : Program) (T : Tab) (D : DTab) (N : Nat) {β : Type} (K : AV → Hp → Option β) (a0 : AV) (h : Hp) : o_slices_Reverse_int P T D N K a0 h = f_slices_Reverse_int P T D N K a0 h := by
  have eL2 : (fun s : St => iterK (fun s k => o_slices_Reverse_int_L2 P T D N s.1 s.2 k) N s (o_slices_Reverse_int_aL2 P T D N K)) = (fun s : St => f_slices_Reverse_int_L2 P T D N (fun h => f_slices_Reverse_int_j1 P T D N K h) N (s.1 0) (s.1 2) (s.1 3) s.2) := funext fun s => f_slices_Reverse_int_L2_eq P T D N (o_slices_Reverse_int_aL2 P T D N K) (fun h => f_slices_Reverse_int_j1 P T D N K h) (fun s => rfl) N s
  show o_slices_Reverse_int_G P T D N (fun s => iterK (fun s k => o_slices_Reverse_int_L2 P T D N s.1 s.2 k) N s (o_slices_Reverse_int_aL2 P T D N K)) K a0 h = _
  rw [eL2]
  kernel_rfl
theorem o_slices_Reverse_int_run (T : Tab) (D : DTab) (N : Nat) {β : Type} (K : AV → Hp → Option β) (a0 : AV) (h : Hp) : runK Try.prog T D N [0, 2, 3, 9] Try.f34 K [a0] h = o_slices_Reverse_int Try.prog T D N K a0 h := by kernel_rfl
theorem f_slices_Reverse_int_run (T : Tab) (D : DTab) (N : Nat) {β : Type} (K : AV → Hp → Option β) (a0 : AV) (h : Hp) : runK Try.prog T D N [0, 2, 3, 9] Try.f34 K [a0] h = f_slices_Reverse_int Try.prog T D N K a0 h := (o_slices_Reverse_int_run T D N K a0 h).trans (f_slices_Reverse_int_old_eq Try.prog T D N K a0 h)
noncomputable def o_slices_Concat_int_j2 (P : Program) (T : Tab) (D : DTab) (N : Nat) {β : Type} (K : AV → Hp → Option β) (t : Tm) (h : Hp) : Option β :=
K (t 6) h
noncomputable def o_slices_Concat_int_L3 (P : Program) (T : Tab) (D : DTab) (N : Nat) {β : Type} (t : Tm) (h : Hp) (k : Ex → St → Option β) : Option β :=
arithK .lss (t 27) (t 26) fun x5 =>
condK x5 (
iaK 1 (t 25) (t 27) fun x6 =>
ldK 1 false x6 h fun x7 =>
effK (appE 1 8 (t 6) x7 h (List.length h)) h fun x8 h9 =>
arithK .add (t 27) (.s (.int .i64 1)) fun x10 =>
k .normal ((upd (upd (upd (upd t 28 x5) 8 x7) 6 x8) 27 x10), h9)) (
k (.exit 2) ((upd t 28 x5), h))
noncomputable def o_slices_Concat_int_aL3 (P : Program) (T : Tab) (D : DTab) (N : Nat) {β : Type} (K : AV → Hp → Option β) (e : Ex) (s : St) : Option β :=
  e.on ((o_slices_Concat_int_j2 P T D N K s.1 s.2))
  (fun i => bif i == 2 then ((o_slices_Concat_int_j2 P T D N K s.1 s.2)) else (none))
  (K (s.1 2) s.2)
noncomputable def o_slices_Concat_int_j1_G (P : Program) (T : Tab) (D : DTab) (N : Nat) {β : Type} (cL3 : St → Option β) (K : AV → Hp → Option β) (t : Tm) (h : Hp) :  Option β :=
callK (T 59) [(.s (.slice none 0 0)), (t 3)] h fun x2 h3 =>
lenK (t 0) fun x4 =>
cL3 ((upd (upd (upd (upd t 6 x2) 25 (t 0)) 26 x4) 27 (.s (.int .i64 0))), h3)
noncomputable def o_slices_Concat_int_j1 (P : Program) (T : Tab) (D : DTab) (N : Nat) {β : Type} (K : AV → Hp → Option β) (t : Tm) (h : Hp) : Option β := o_slices_Concat_int_j1_G P T D N (fun s => iterK (fun s k => o_slices_Concat_int_L3 P T D N s.1 s.2 k) N s (o_slices_Concat_int_aL3 P T D N K)) K t h
noncomputable def o_slices_Concat_int_j5 (P : Program) (T : Tab) (D : DTab) (N : Nat) {β : Type} (k : Ex → St → Option β) (t : Tm) (h : Hp) : Option β :=
arithK .add (t 11) (.s (.int .i64 1)) fun x12 =>
k .normal ((upd t 11 x12), h)
noncomputable def o_slices_Concat_int_j6 (P : Program) (T : Tab) (D : DTab) (N : Nat) {β : Type} (k : Ex → St → Option β) (t : Tm) (h : Hp) : Option β :=
(o_slices_Concat_int_j5 P T D N k t h)
noncomputable def o_slices_Concat_int_L4 (P : Program) (T : Tab) (D : DTab) (N : Nat) {β : Type} (t : Tm) (h : Hp) (k : Ex → St → Option β) : Option β :=
arithK .lss (t 11) (t 10) fun x11 =>
condK x11 (
iaK 1 (t 9) (t 11) fun x13 =>
ldK 1 false x13 h fun x14 =>
lenK x14 fun x15 =>
arithK .add (t 3) x15 fun x16 =>
arithK .lss x16 (.s (.int .i64 0)) fun x17 =>
condK x17 (
none) (
(o_slices_Concat_int_j6 P T D N k (upd (upd (upd (upd t 12 x11) 5 x14) 3 x16) 20 x17) h))) (
k (.exit 0) ((upd t 12 x11), h))
noncomputable def o_slices_Concat_int_aL4 (P : Program) (T : Tab) (D : DTab) (N : Nat) {β : Type} (K : AV → Hp → Option β) (e : Ex) (s : St) : Option β :=
  e.on ((o_slices_Concat_int_j1 P T D N K s.1 s.2))
  (fun i => bif i == 0 then ((o_slices_Concat_int_j1 P T D N K s.1 s.2)) else (none))
  (K (s.1 2) s.2)
noncomputable def o_slices_Concat_int_G (P : Program) (T : Tab) (D : DTab) (N : Nat) {β : Type} (cL4 : St → Option β) (K : AV → Hp → Option β) (a0 : AV) (h : Hp) :  Option β :=
lenK a0 fun x1 =>
cL4 ((upd (upd (upd (upd (upd (tm0 [a0]) 2 (.s (.slice none 0 0))) 3 (.s (.int .i64 0))) 9 a0) 10 x1) 11 (.s (.int .i64 0))), h)
noncomputable def o_slices_Concat_int (P : Program) (T : Tab) (D : DTab) (N : Nat) {β : Type} (K : AV → Hp → Option β) (a0 : AV) (h : Hp) : Option β := o_slices_Concat_int_G P T D N (fun s => iterK (fun s k => o_slices_Concat_int_L4 P T D N s.1 s.2 k) N s (o_slices_Concat_int_aL4 P T D N K)) K a0 h
noncomputable def f_slices_Concat_int_j2 (P : Program) (T : Tab) (D : DTab) (N : Nat) {β : Type} (K : AV → Hp → Option β) (v6 : AV) (h : Hp) : Option β :=
K v6 h
noncomputable def f_slices_Concat_int_b3 (P : Program) (T : Tab) (D : DTab) (N : Nat) {β : Type} (xn : AV → AV → AV → AV → Hp → Option β) (x2 : AV → Hp → Option β) (v6 : AV) (v25 : AV) (v26 : AV) (v27 : AV) (h : Hp) : Option β :=
arithK .lss v27 v26 fun x5 =>
condK x5 (
iaK 1 v25 v27 fun x6 =>
ldK 1 false x6 h fun x7 =>
effK (appE 1 8 v6 x7 h (List.length h)) h fun x8 h9 =>
arithK .add v27 (.s (.int .i64 1)) fun x10 =>
xn x8 v25 v26 x10 h9) (
x2 v6 h)
noncomputable def f_slices_Concat_int_L3 (P : Program) (T : Tab) (D : DTab) (N : Nat) {β : Type} (x2 : AV → Hp → Option β) : Nat → AV → AV → AV → AV → Hp → Option β
  | 0 => fun _ _ _ _ _ => none
  | n + 1 => fun v6 v25 v26 v27 h => f_slices_Concat_int_b3 P T D N (f_slices_Concat_int_L3 P T D N x2 n) x2 v6 v25 v26 v27 h
noncomputable def f_slices_Concat_int_j1 (P : Program) (T : Tab) (D : DTab) (N : Nat) {β : Type} (K : AV → Hp → Option β) (v0 : AV) (v3 : AV) (h : Hp) : Option β :=
callK (T 59) [(.s (.slice none 0 0)), v3] h fun x2 h3 =>
lenK v0 fun x4 =>
f_slices_Concat_int_L3 P T D N (fun w11_6 h => f_slices_Concat_int_j2 P T D N K w11_6 h) N x2 v0 x4 (.s (.int .i64 0)) h3
noncomputable def f_slices_Concat_int_j5 (P : Program) (T : Tab) (D : DTab) (N : Nat) {β : Type} (xn : AV → AV → AV → AV → AV → Hp → Option β) (x0 : AV → AV → Hp → Option β) (v0 : AV) (v3 : AV) (v9 : AV) (v10 : AV) (v11 : AV) (h : Hp) : Option β :=
arithK .add v11 (.s (.int .i64 1)) fun x13 =>
xn v0 v3 v9 v10 x13 h
noncomputable def f_slices_Concat_int_j6 (P : Program) (T : Tab) (D : DTab) (N : Nat) {β : Type} (xn : AV → AV → AV → AV → AV → Hp → Option β) (x0 : AV → AV → Hp → Option β) (v0 : AV) (v3 : AV) (v9 : AV) (v10 : AV) (v11 : AV) (h : Hp) : Option β :=
f_slices_Concat_int_j5 P T D N xn x0 v0 v3 v9 v10 v11 h
noncomputable def f_slices_Concat_int_b4 (P : Program) (T : Tab) (D : DTab) (N : Nat) {β : Type} (xn : AV → AV → AV → AV → AV → Hp → Option β) (x0 : AV → AV → Hp → Option β) (v0 : AV) (v3 : AV) (v9 : AV) (v10 : AV) (v11 : AV) (h : Hp) : Option β :=
arithK .lss v11 v10 fun x12 =>
condK x12 (
iaK 1 v9 v11 fun x14 =>
ldK 1 false x14 h fun x15 =>
lenK x15 fun x16 =>
arithK .add v3 x16 fun x17 =>
arithK .lss x17 (.s (.int .i64 0)) fun x18 =>
condK x18 (
none) (
f_slices_Concat_int_j6 P T D N xn x0 v0 x17 v9 v10 v11 h)) (
x0 v0 v3 h)
noncomputable def f_slices_Concat_int_L4 (P : Program) (T : Tab) (D : DTab) (N : Nat) {β : Type} (x0 : AV → AV → Hp → Option β) : Nat → AV → AV → AV → AV → AV → Hp → Option β
  | 0 => fun _ _ _ _ _ _ => none
  | n + 1 => fun v0 v3 v9 v10 v11 h => f_slices_Concat_int_b4 P T D N (f_slices_Concat_int_L4 P T D N x0 n) x0 v0 v3 v9 v10 v11 h
noncomputable def f_slices_Concat_int (P : Program) (T : Tab) (D : DTab) (N : Nat) {β : Type} (K : AV → Hp → Option β) (a0 : AV) (h : Hp) : Option β :=
lenK a0 fun x1 =>
f_slices_Concat_int_L4 P T D N (fun w19_0 w19_3 h => f_slices_Concat_int_j1 P T D N K w19_0 w19_3 h) N a0 (.s (.int .i64 0)) a0 x1 (.s (.int .i64 0)) h
theorem f_slices_Concat_int_b3_eq (P : Program) (T : Tab) (D : DTab) (N : Nat) {β : Type} (xn : AV → AV → AV → AV → Hp → Option β) (x2 : AV → Hp → Option β) (xd : Nat → St → Option β) (xq : St → Option β) (t : Tm) (h : Hp) : o_slices_Concat_int_L3 P T D N t h (fun (e : Ex) (s : St) => e.on (xn (s.1 6) (s.1 25) (s.1 26) (s.1 27) s.2) (fun i => (bif i == 2 then x2 (s.1 6) s.2 else (xd i s))) (xq s)) = f_slices_Concat_int_b3 P T D N xn x2 (t 6) (t 25) (t 26) (t 27) h := by kernel_rfl
theorem f_slices_Concat_int_L3_eq (P : Program) (T : Tab) (D : DTab) (N : Nat) {β : Type} (A : Ex → St → Option β) (x2 : AV → Hp → Option β) (q2 : ∀ s, A (.exit 2) s = x2 (s.1 6) s.2) : ∀ (n : Nat) (s : St), iterK (fun s k => o_slices_Concat_int_L3 P T D N s.1 s.2 k) n s A = f_slices_Concat_int_L3 P T D N x2 n (s.1 6) (s.1 25) (s.1 26) (s.1 27) s.2 := by
  intro n
  induction n with
  | zero => intro s; rfl
  | succ n ih =>
    intro s
    have hk : (fun (e : Ex) (s' : St) => Ex.on e (iterK (fun s k => o_slices_Concat_int_L3 P T D N s.1 s.2 k) n s' A) (fun i => A (.exit i) s') (A .ret s')) = (fun (e : Ex) (s : St) => e.on ((f_slices_Concat_int_L3 P T D N x2 n) (s.1 6) (s.1 25) (s.1 26) (s.1 27) s.2) (fun i => (bif i == 2 then x2 (s.1 6) s.2 else (A (.exit i) s))) (A .ret s)) := by
      funext e s'
      cases e with
      | normal => exact ih s'
      | ret => exact rfl
      | exit i =>
        by_cases r2 : i = 2
        · subst r2; exact q2 s'
        simp only [Ex.on, beq_false_of_ne r2, cond_false]
    show o_slices_Concat_int_L3 P T D N s.1 s.2 (fun (e : Ex) (s' : St) => Ex.on e (iterK (fun s k => o_slices_Concat_int_L3 P T D N s.1 s.2 k) n s' A) (fun i => A (.exit i) s') (A .ret s')) = _
    rw [hk]
    exact f_slices_Concat_int_b3_eq P T D N (f_slices_Concat_int_L3 P T D N x2 n) x2 (fun i s => A (.exit i) s) (fun s => A .ret s) s.1 s.2
theorem f_slices_Concat_int_j1_eq (P : Program) (T : Tab) (D : DTab) (N : Nat) {β : Type} (K : AV → Hp → Option β) (t : Tm) (h : Hp) : o_slices_Concat_int_j1 P T D N K t h = f_slices_Concat_int_j1 P T D N K (t 0) (t 3) h := by
  have eL3 : (fun s : St => iterK (fun s k => o_slices_Concat_int_L3 P T D N s.1 s.2 k) N s (o_slices_Concat_int_aL3 P T D N K)) = (fun s : St => f_slices_Concat_int_L3 P T D N (fun w11_6 h => f_slices_Concat_int_j2 P T D N K w11_6 h) N (s.1 6) (s.1 25) (s.1 26) (s.1 27) s.2) := funext fun s => f_slices_Concat_int_L3_eq P T D N (o_slices_Concat_int_aL3 P T D N K) (fun w11_6 h => f_slices_Concat_int_j2 P T D N K w11_6 h) (fun s => rfl) N s
  show o_slices_Concat_int_j1_G P T D N (fun s => iterK (fun s k => o_slices_Concat_int_L3 P T D N s.1 s.2 k) N s (o_slices_Concat_int_aL3 P T D N K)) K t h = _
  rw [eL3]
  kernel_rfl
theorem f_slices_Concat_int_b4_eq (P : Program) (T : Tab) (D : DTab) (N : Nat) {β : Type} (xn : AV → AV → AV → AV → AV → Hp → Option β) (x0 : AV → AV → Hp → Option β) (xd : Nat → St → Option β) (xq : St → Option β) (t : Tm) (h : Hp) : o_slices_Concat_int_L4 P T D N t h (fun (e : Ex) (s : St) => e.on (xn (s.1 0) (s.1 3) (s.1 9) (s.1 10) (s.1 11) s.2) (fun i => (bif i == 0 then x0 (s.1 0) (s.1 3) s.2 else (xd i s))) (xq s)) = f_slices_Concat_int_b4 P T D N xn x0 (t 0) (t 3) (t 9) (t 10) (t 11) h := by kernel_rfl
theorem f_slices_Concat_int_L4_eq (P : Program) (T : Tab) (D : DTab) (N : Nat) {β : Type} (A : Ex → St → Option β) (x0 : AV → AV → Hp → Option β) (q0 : ∀ s, A (.exit 0) s = x0 (s.1 0) (s.1 3) s.2) : ∀ (n : Nat) (s : St), iterK (fun s k => o_slices_Concat_int_L4 P T D N s.1 s.2 k) n s A = f_slices_Concat_int_L4 P T D N x0 n (s.1 0) (s.1 3) (s.1 9) (s.1 10) (s.1 11) s.2 := by
  intro n
  induction n with
  | zero => intro s; rfl
  | succ n ih =>
    intro s
    have hk : (fun (e : Ex) (s' : St) => Ex.on e (iterK (fun s k => o_slices_Concat_int_L4 P T D N s.1 s.2 k) n s' A) (fun i => A (.exit i) s') (A .ret s')) = (fun (e : Ex) (s : St) => e.on ((f_slices_Concat_int_L4 P T D N x0 n) (s.1 0) (s.1 3) (s.1 9) (s.1 10) (s.1 11) s.2) (fun i => (bif i == 0 then x0 (s.1 0) (s.1 3) s.2 else (A (.exit i) s))) (A .ret s)) := by
      funext e s'
      cases e with
      | normal => exact ih s'
      | ret => exact rfl
      | exit i =>
        by_cases r0 : i = 0
        · subst r0; exact q0 s'
        simp only [Ex.on, beq_false_of_ne r0, cond_false]
    show o_slices_Concat_int_L4 P T D N s.1 s.2 (fun (e : Ex) (s' : St) => Ex.on e (iterK (fun s k => o_slices_Concat_int_L4 P T D N s.1 s.2 k) n s' A) (fun i => A (.exit i) s') (A .ret s')) = _
    rw [hk]
    exact f_slices_Concat_int_b4_eq P T D N (f_slices_Concat_int_L4 P T D N x0 n) x0 (fun i s => A (.exit i) s) (fun s => A .ret s) s.1 s.2
theorem f_slices_Concat_int_old_eq (P : Program) (T : Tab) (D : DTab) (N : Nat) {β : Type} (K : AV → Hp → Option β) (a0 : AV) (h : Hp) : o_slices_Concat_int P T D N K a0 h = f_slices_Concat_int P T D N K a0 h := by
  have eL4 : (fun s : St => iterK (fun s k => o_slices_Concat_int_L4 P T D N s.1 s.2 k) N s (o_slices_Concat_int_aL4 P T D N K)) = (fun s : St => f_slices_Concat_int_L4 P T D N (fun w19_0 w19_3 h => f_slices_Concat_int_j1 P T D N K w19_0 w19_3 h) N (s.1 0) (s.1 3) (s.1 9) (s.1 10) (s.1 11) s.2) := funext fun s => f_slices_Concat_int_L4_eq P T D N (o_slices_Concat_int_aL4 P T D N K) (fun w19_0 w19_3 h => f_slices_Concat_int_j1 P T D N K w19_0 w19_3 h) (fun s => f_slices_Concat_int_j1_eq P T D N K s.1 s.2) N s
  show o_slices_Concat_int_G P T D N (fun s => iterK (fun s k => o_slices_Concat_int_L4 P T D N s.1 s.2 k) N s (o_slices_Concat_int_aL4 P T D N K)) K a0 h = _
  rw [eL4]
  kernel_rfl
theorem o_slices_Concat_int_run (T : Tab) (D : DTab) (N : Nat) {β : Type} (K : AV → Hp → Option β) (a0 : AV) (h : Hp) : runK Try.prog T D N [0, 2, 3, 5, 6, 8, 9, 10, 11, 12, 20, 25, 26, 27, 28] Try.f35 K [a0] h = o_slices_Concat_int Try.prog T D N K a0 h := by kernel_rfl
theorem f_slices_Concat_int_run (T : Tab) (D : DTab) (N : Nat) {β : Type} (K : AV → Hp → Option β) (a0 : AV) (h : Hp) : runK Try.prog T D N [0, 2, 3, 5, 6, 8, 9, 10, 11, 12, 20, 25, 26, 27, 28] Try.f35 K [a0] h = f_slices_Concat_int Try.prog T D N K a0 h := (o_slices_Concat_int_run T D N K a0 h).trans (f_slices_Concat_int_old_eq Try.prog T D N K a0 h)
noncomputable def o_slices_Equal_Message_j1 (P : Program) (T : Tab) (D : DTab) (N : Nat) {β : Type} (K : AV → Hp → Option β) (t : Tm) (h : Hp) : Option β :=
K (.s (.bool true)) h
noncomputable def o_slices_Equal_Message_L2 (P : Program) (T : Tab) (D : DTab) (N : Nat) {β : Type} (t : Tm) (h : Hp) (k : Ex → St → Option β) : Option β :=
arithK .lss (t 13) (t 12) fun x5 =>
condK x5 (
iaK 7 (t 0) (t 13) fun x6 =>
ldK 7 true x6 h fun x7 =>
iaK 7 (t 1) (t 13) fun x8 =>
ldK 7 true x8 h fun x9 =>
eqK P true 31 x7 x9 h fun x10 =>
condK x10 (
k .ret ((upd (upd (upd (upd t 14 x5) 5 (t 13)) 24 x10) 4 (.s (.bool false))), h)) (
arithK .add (t 13) (.s (.int .i64 1)) fun x11 =>
k .normal ((upd (upd (upd (upd t 14 x5) 5 (t 13)) 24 x10) 13 x11), h))) (
k (.exit 0) ((upd t 14 x5), h))
noncomputable def o_slices_Equal_Message_aL2 (P : Program) (T : Tab) (D : DTab) (N : Nat) {β : Type} (K : AV → Hp → Option β) (e : Ex) (s : St) : Option β :=
  e.on ((o_slices_Equal_Message_j1 P T D N K s.1 s.2))
  (fun i => bif i == 0 then ((o_slices_Equal_Message_j1 P T D N K s.1 s.2)) else (none))
  (K (s.1 4) s.2)
noncomputable def o_slices_Equal_Message_G (P : Program) (T : Tab) (D : DTab) (N : Nat) {β : Type} (cL2 : St → Option β) (K : AV → Hp → Option β) (a0 : AV) (a1 : AV) (h : Hp) :  Option β :=
lenK a0 fun x1 =>
lenK a1 fun x2 =>
eqK P true 3 x1 x2 h fun x3 =>
condK x3 (
K (.s (.bool false)) h) (
lenK a0 fun x4 =>
cL2 ((upd (upd (upd (upd (tm0 [a0, a1]) 4 (.s (.bool false))) 10 x3) 12 x4) 13 (.s (.int .i64 0))), h))
noncomputable def o_slices_Equal_Message (P : Program) (T : Tab) (D : DTab) (N : Nat) {β : Type} (K : AV → Hp → Option β) (a0 : AV) (a1 : AV) (h : Hp) : Option β := o_slices_Equal_Message_G P T D N (fun s => iterK (fun s k => o_slices_Equal_Message_L2 P T D N s.1 s.2 k) N s (o_slices_Equal_Message_aL2 P T D N K)) K a0 a1 h
noncomputable def f_slices_Equal_Message_j1 (P : Program) (T : Tab) (D : DTab) (N : Nat) {β : Type} (K : AV → Hp → Option β) (h : Hp) : Option β :=
K (.s (.bool true)) h
noncomputable def f_slices_Equal_Message_b2 (P : Program) (T : Tab) (D : DTab) (N : Nat) {β : Type} (xn : AV → AV → AV → AV → Hp → Option β) (x0 : Hp → Option β) (xr : AV → Hp → Option β) (v0 : AV) (v1 : AV) (v12 : AV) (v13 : AV) (h : Hp) : Option β :=
arithK .lss v13 v12 fun x5 =>
condK x5 (
iaK 7 v0 v13 fun x6 =>
ldK 7 true x6 h fun x7 =>
iaK 7 v1 v13 fun x8 =>
ldK 7 true x8 h fun x9 =>
eqK P true 31 x7 x9 h fun x10 =>
condK x10 (
xr (.s (.bool false)) h) (
arithK .add v13 (.s (.int .i64 1)) fun x11 =>
xn v0 v1 v12 x11 h)) (
x0 h)
noncomputable def f_slices_Equal_Message_L2 (P : Program) (T : Tab) (D : DTab) (N : Nat) {β : Type} (x0 : Hp → Option β) (xr : AV → Hp → Option β) : Nat → AV → AV → AV → AV → Hp → Option β
  | 0 => fun _ _ _ _ _ => none
  | n + 1 => fun v0 v1 v12 v13 h => f_slices_Equal_Message_b2 P T D N (f_slices_Equal_Message_L2 P T D N x0 xr n) x0 xr v0 v1 v12 v13 h
noncomputable def f_slices_Equal_Message (P : Program) (T : Tab) (D : DTab) (N : Nat) {β : Type} (K : AV → Hp → Option β) (a0 : AV) (a1 : AV) (h : Hp) : Option β :=
lenK a0 fun x1 =>
lenK a1 fun x2 =>
eqK P true 3 x1 x2 h fun x3 =>
condK x3 (
K (.s (.bool false)) h) (
lenK a0 fun x4 =>
f_slices_Equal_Message_L2 P T D N (fun h => f_slices_Equal_Message_j1 P T D N K h) (fun w13_4 h => K w13_4 h) N a0 a1 x4 (.s (.int .i64 0)) h)
theorem f_slices_Equal_Message_b2_eq (P : Program) (T : Tab) (D : DTab) (N : Nat) {β : Type} (xn : AV → AV → AV → AV → Hp → Option β) (x0 : Hp → Option β) (xr : AV → Hp → Option β) (xd : Nat → St → Option β) (xq : St → Option β) (t : Tm) (h : Hp) : o_slices_Equal_Message_L2 P T D N t h (fun (e : Ex) (s : St) => e.on (xn (s.1 0) (s.1 1) (s.1 12) (s.1 13) s.2) (fun i => (bif i == 0 then x0 s.2 else (xd i s))) (xr (s.1 4) s.2)) = f_slices_Equal_Message_b2 P T D N xn x0 xr (t 0) (t 1) (t 12) (t 13) h := by kernel_rfl
theorem f_slices_Equal_Message_L2_eq (P : Program) (T : Tab) (D : DTab) (N : Nat) {β : Type} (A : Ex → St → Option β) (x0 : Hp → Option β) (xr : AV → Hp → Option β) (q0 : ∀ s, A (.exit 0) s = x0 s.2) (qr : ∀ s, A .ret s = xr (s.1 4) s.2) : ∀ (n : Nat) (s : St), iterK (fun s k => o_slices_Equal_Message_L2 P T D N s.1 s.2 k) n s A = f_slices_Equal_Message_L2 P T D N x0 xr n (s.1 0) (s.1 1) (s.1 12) (s.1 13) s.2 := by
  intro n
  induction n with
  | zero => intro s; rfl
  | succ n ih =>
    intro s
    have hk : (fun (e : Ex) (s' : St) => Ex.on e (iterK (fun s k => o_slices_Equal_Message_L2 P T D N s.1 s.2 k) n s' A) (fun i => A (.exit i) s') (A .ret s')) = (fun (e : Ex) (s : St) => e.on ((f_slices_Equal_Message_L2 P T D N x0 xr n) (s.1 0) (s.1 1) (s.1 12) (s.1 13) s.2) (fun i => (bif i == 0 then x0 s.2 else (A (.exit i) s))) (xr (s.1 4) s.2)) := by
      funext e s'
      cases e with
      | normal => exact ih s'
      | ret => exact qr s'
      | exit i =>
        by_cases r0 : i = 0
        · subst r0; exact q0 s'
        simp only [Ex.on, beq_false_of_ne r0, cond_false]
    show o_slices_Equal_Message_L2 P T D N s.1 s.2 (fun (e : Ex) (s' : St) => Ex.on e (iterK (fun s k => o_slices_Equal_Message_L2 P T D N s.1 s.2 k) n s' A) (fun i => A (.exit i) s') (A .ret s')) = _
    rw [hk]
    exact f_slices_Equal_Message_b2_eq P T D N (f_slices_Equal_Message_L2 P T D N x0 xr n) x0 xr (fun i s => A (.exit i) s) (fun s => A .ret s) s.1 s.2
theorem f_slices_Equal_Message_old_eq (P : Program) (T : Tab) (D : DTab) (N : Nat) {β : Type} (K : AV → Hp → Option β) (a0 : AV) (a1 : AV) (h : Hp) : o_slices_Equal_Message P T D N K a0 a1 h = f_slices_Equal_Message P T D N K a0 a1 h := by
  have eL2 : (fun s : St => iterK (fun s k => o_slices_Equal_Message_L2 P T D N s.1 s.2 k) N s (o_slices_Equal_Message_aL2 P T D N K)) = (fun s : St => f_slices_Equal_Message_L2 P T D N (fun h => f_slices_Equal_Message_j1 P T D N K h) (fun w13_4 h => K w13_4 h) N (s.1 0) (s.1 1) (s.1 12) (s.1 13) s.2) := funext fun s => f_slices_Equal_Message_L2_eq P T D N (o_slices_Equal_Message_aL2 P T D N K) (fun h => f_slices_Equal_Message_j1 P T D N K h) (fun w13_4 h => K w13_4 h) (fun s => rfl) (fun s => rfl) N s
  show o_slices_Equal_Message_G P T D N (fun s => iterK (fun s k => o_slices_Equal_Message_L2 P T D N s.1 s.2 k) N s (o_slices_Equal_Message_aL2 P T D N K)) K a0 a1 h = _
  rw [eL2]
  kernel_rfl
theorem o_slices_Equal_Message_run (T : Tab) (D : DTab) (N : Nat) {β : Type} (K : AV → Hp → Option β) (a0 : AV) (a1 : AV) (h : Hp) : runK Try.prog T D N [0, 1, 4, 5, 10, 12, 13, 14, 24] Try.f36 K [a0, a1] h = o_slices_Equal_Message Try.prog T D N K a0 a1 h := by kernel_rfl
theorem f_slices_Equal_Message_run (T : Tab) (D : DTab) (N : Nat) {β : Type} (K : AV → Hp → Option β) (a0 : AV) (a1 : AV) (h : Hp) : runK Try.prog T D N [0, 1, 4, 5, 10, 12, 13, 14, 24] Try.f36 K [a0, a1] h = f_slices_Equal_Message Try.prog T D N K a0 a1 h := (o_slices_Equal_Message_run T D N K a0 a1 h).trans (f_slices_Equal_Message_old_eq Try.prog T D N K a0 a1 h)
noncomputable def f_slices_Contains_Message (P : Program) (T : Tab) (D : DTab) (N : Nat) {β : Type} (K : AV → Hp → Option β) (a0 : AV) (a1 : AV) (h : Hp) : Option β :=
effK (boxE 7 a1 (List.length h)) h fun x1 h2 =>
ldK 7 true x1 h2 fun x3 =>
callK (T 60) [a0, x3] h2 fun x4 h5 =>
arithK .geq x4 (.s (.int .i64 0)) fun x6 =>
K x6 h5
theorem f_slices_Contains_Message_run (T : Tab) (D : DTab) (N : Nat) {β : Type} (K : AV → Hp → Option β) (a0 : AV) (a1 : AV) (h : Hp) : runK Try.prog T D N [0, 1, 3, 4] Try.f37 K [a0, a1] h = f_slices_Contains_Message Try.prog T D N K a0 a1 h := by kernel_rfl
noncomputable def f_document_Normal (P : Program) (T : Tab) (D : DTab) (N : Nat) {β : Type} (K : AV → Hp → Option β) (a0 : AV) (h : Hp) : Option β :=
lenK a0 fun x1 =>
arithK .gtr x1 (.s (.int .i64 64)) fun x2 =>
condK x2 (
K (.tup [(.s (.slice none 0 0)), (.s (.int .i64 8))]) h) (
callK (T 40) [a0, (.fn 61 [])] h fun x3 h4 =>
condK x3 (
K (.tup [(.s (.slice none 0 0)), (.s (.int .i64 1))]) h4) (
callK (T 39) [a0] h4 fun x5 h6 =>
callK (T 62) [x5, (.fn 63 [])] h6 fun x7 h8 =>
callK (T 64) [x5] h8 fun x9 h10 =>
K (.tup [x9, (.s (.int .i64 0))]) h10))
theorem f_document_Normal_run (T : Tab) (D : DTab) (N : Nat) {β : Type} (K : AV → Hp → Option β) (a0 : AV) (h : Hp) : runK Try.prog T D N [0, 2, 3, 4, 7, 9] Try.f38 K [a0] h = f_document_Normal Try.prog T D N K a0 h := by kernel_rfl
noncomputable def f_slices_Clone_Message (P : Program) (T : Tab) (D : DTab) (N : Nat) {β : Type} (K : AV → Hp → Option β) (a0 : AV) (h : Hp) : Option β :=
eqK P false 37 a0 (.s (.slice none 0 0)) h fun x1 =>
condK x1 (
K (.s (.slice none 0 0)) h) (
effK (bsE 7 [.s (.int .i64 0), .s (.int .i64 0), .s (.int .i64 0), .s (.int .i64 0), .s (.int .i64 0), .s (.int .i64 0), .s (.int .i64 0)] 0 [] (List.length h)) h fun x2 h3 =>
effK (appE 7 56 x2 a0 h3 (List.length h3)) h3 fun x4 h5 =>
K x4 h5)
theorem f_slices_Clone_Message_run (T : Tab) (D : DTab) (N : Nat) {β : Type} (K : AV → Hp → Option β) (a0 : AV) (h : Hp) : runK Try.prog T D N [0, 2, 4] Try.f39 K [a0] h = f_slices_Clone_Message Try.prog T D N K a0 h := by kernel_rfl
noncomputable def f_slices_ContainsFunc_Message (P : Program) (T : Tab) (D : DTab) (N : Nat) {β : Type} (K : AV → Hp → Option β) (a0 : AV) (a1 : AV) (h : Hp) : Option β :=
callK (T 65) [a0, a1] h fun x1 h2 =>
arithK .geq x1 (.s (.int .i64 0)) fun x3 =>
K x3 h2
theorem f_slices_ContainsFunc_Message_run (T : Tab) (D : DTab) (N : Nat) {β : Type} (K : AV → Hp → Option β) (a0 : AV) (a1 : AV) (h : Hp) : runK Try.prog T D N [0, 1, 4] Try.f40 K [a0, a1] h = f_slices_ContainsFunc_Message Try.prog T D N K a0 a1 h := by kernel_rfl
noncomputable def f_law41_NetworkKnows_1 (P : Program) (T : Tab) (D : DTab) (N : Nat) {β : Type} (K : AV → Hp → Option β) (a0 : AV) (a1 : AV) (a2 : AV) (h : Hp) : Option β :=
effK (boxE 7 a0 (List.length h)) h fun x1 h2 =>
ldK 1 false a1 h2 fun x3 =>
ldK 7 true x1 h2 fun x4 =>
callK (T 37) [x3, x4] h2 fun x5 h6 =>
notK x5 fun x7 =>
grpK false x7 h6 (fun k8 =>
ldK 1 false a2 h6 fun x9 =>
callK (T 31) [x9, (.fn 42 [x1])] h6 fun x10 h11 =>
notK x10 fun x12 =>
k8 x12 h11) fun x13 h14 =>
K x13 h14
theorem f_law41_NetworkKnows_1_run (T : Tab) (D : DTab) (N : Nat) {β : Type} (K : AV → Hp → Option β) (a0 : AV) (a1 : AV) (a2 : AV) (h : Hp) : runK Try.prog T D N [0, 1, 2, 3, 4] Try.f41 K [a0, a1, a2] h = f_law41_NetworkKnows_1 Try.prog T D N K a0 a1 a2 h := by kernel_rfl
noncomputable def f_law41_NetworkKnows_1_1 (P : Program) (T : Tab) (D : DTab) (N : Nat) {β : Type} (K : AV → Hp → Option β) (a0 : AV) (a1 : AV) (h : Hp) : Option β :=
effK (boxE 10 a0 (List.length h)) h fun x1 h2 =>
faK 3 x1 fun x3 =>
ldK 7 true x3 h2 fun x4 =>
ldK 7 true a1 h2 fun x5 =>
eqK P false 31 x4 x5 h2 fun x6 =>
K x6 h2
theorem f_law41_NetworkKnows_1_1_run (T : Tab) (D : DTab) (N : Nat) {β : Type} (K : AV → Hp → Option β) (a0 : AV) (a1 : AV) (h : Hp) : runK Try.prog T D N [0, 1, 2, 3] Try.f42 K [a0, a1] h = f_law41_NetworkKnows_1_1 Try.prog T D N K a0 a1 h := by kernel_rfl
noncomputable def o_law41_example_j1 (P : Program) (T : Tab) (D : DTab) (N : Nat) {β : Type} (K : AV → Hp → Option β) (t : Tm) (h : Hp) : Option β :=
K (t 1) h
noncomputable def o_law41_example_L2 (P : Program) (T : Tab) (D : DTab) (N : Nat) {β : Type} (t : Tm) (h : Hp) (k : Ex → St → Option β) : Option β :=
arithK .lss (t 3) (.s (.int .i64 3)) fun x1 =>
condK x1 (
arithK .add (t 3) (.s (.int .i64 1)) fun x2 =>
arithK .add (t 3) (.s (.int .i64 1)) fun x3 =>
buildK [.s (.int .i64 0), .s (.int .i64 0), .s (.int .i64 0), .s (.int .i64 0), .s (.int .i64 0), .s (.int .i64 0), .s (.int .i64 0)] [(some (0, 1), x3), (some (1, 1), (.s (.int .i64 1))), (some (4, 1), (.s (.int .i64 1))), (some (5, 1), (.s (.int .i64 2))), (some (6, 1), (.s (.int .i64 10)))] fun x4 =>
buildK [.s (.int .i64 0), .s (.int .i64 0), .s (.int .i64 0), .s (.int .i64 0), .s (.int .i64 0), .s (.int .i64 0), .s (.int .i64 0), .s (.int .i64 0), .s (.int .i64 0), .s (.int .i64 0)] [(some (0, 1), (.s (.int .i64 1))), (some (1, 1), (.s (.int .i64 2))), (some (2, 1), x2), (some (3, 7), x4)] fun x5 =>
effK (bsE 10 [.s (.int .i64 0), .s (.int .i64 0), .s (.int .i64 0), .s (.int .i64 0), .s (.int .i64 0), .s (.int .i64 0), .s (.int .i64 0), .s (.int .i64 0), .s (.int .i64 0), .s (.int .i64 0)] 1 [(0, x5)] (List.length h)) h fun x6 h7 =>
effK (appE 10 80 (t 1) x6 h7 (List.length h7)) h7 fun x8 h9 =>
arithK .add (t 3) (.s (.int .i64 1)) fun x10 =>
k .normal ((upd (upd (upd (upd t 4 x1) 2 (t 3)) 1 x8) 3 x10), h9)) (
k (.exit 0) ((upd t 4 x1), h))
noncomputable def o_law41_example_aL2 (P : Program) (T : Tab) (D : DTab) (N : Nat) {β : Type} (K : AV → Hp → Option β) (e : Ex) (s : St) : Option β :=
  e.on ((o_law41_example_j1 P T D N K s.1 s.2))
  (fun i => bif i == 0 then ((o_law41_example_j1 P T D N K s.1 s.2)) else (none))
  (K (s.1 0) s.2)
noncomputable def o_law41_example_G (P : Program) (T : Tab) (D : DTab) (N : Nat) {β : Type} (cL2 : St → Option β) (K : AV → Hp → Option β) (h : Hp) :  Option β :=
cL2 ((upd (upd (upd (tm0 []) 0 (.s (.slice none 0 0))) 1 (.s (.slice none 0 0))) 3 (.s (.int .i64 0))), h)
noncomputable def o_law41_example (P : Program) (T : Tab) (D : DTab) (N : Nat) {β : Type} (K : AV → Hp → Option β) (h : Hp) : Option β := o_law41_example_G P T D N (fun s => iterK (fun s k => o_law41_example_L2 P T D N s.1 s.2 k) N s (o_law41_example_aL2 P T D N K)) K h
noncomputable def f_law41_example_j1 (P : Program) (T : Tab) (D : DTab) (N : Nat) {β : Type} (K : AV → Hp → Option β) (v1 : AV) (h : Hp) : Option β :=
K v1 h
noncomputable def f_law41_example_b2 (P : Program) (T : Tab) (D : DTab) (N : Nat) {β : Type} (xn : AV → AV → Hp → Option β) (x0 : AV → Hp → Option β) (v1 : AV) (v3 : AV) (h : Hp) : Option β :=
arithK .lss v3 (.s (.int .i64 3)) fun x1 =>
condK x1 (
arithK .add v3 (.s (.int .i64 1)) fun x2 =>
arithK .add v3 (.s (.int .i64 1)) fun x3 =>
buildK [.s (.int .i64 0), .s (.int .i64 0), .s (.int .i64 0), .s (.int .i64 0), .s (.int .i64 0), .s (.int .i64 0), .s (.int .i64 0)] [(some (0, 1), x3), (some (1, 1), (.s (.int .i64 1))), (some (4, 1), (.s (.int .i64 1))), (some (5, 1), (.s (.int .i64 2))), (some (6, 1), (.s (.int .i64 10)))] fun x4 =>
buildK [.s (.int .i64 0), .s (.int .i64 0), .s (.int .i64 0), .s (.int .i64 0), .s (.int .i64 0), .s (.int .i64 0), .s (.int .i64 0), .s (.int .i64 0), .s (.int .i64 0), .s (.int .i64 0)] [(some (0, 1), (.s (.int .i64 1))), (some (1, 1), (.s (.int .i64 2))), (some (2, 1), x2), (some (3, 7), x4)] fun x5 =>
effK (bsE 10 [.s (.int .i64 0), .s (.int .i64 0), .s (.int .i64 0), .s (.int .i64 0), .s (.int .i64 0), .s (.int .i64 0), .s (.int .i64 0), .s (.int .i64 0), .s (.int .i64 0), .s (.int .i64 0)] 1 [(0, x5)] (List.length h)) h fun x6 h7 =>
effK (appE 10 80 v1 x6 h7 (List.length h7)) h7 fun x8 h9 =>
arithK .add v3 (.s (.int .i64 1)) fun x10 =>
xn x8 x10 h9) (
x0 v1 h)
noncomputable def f_law41_example_L2 (P : Program) (T : Tab) (D : DTab) (N : Nat) {β : Type} (x0 : AV → Hp → Option β) : Nat → AV → AV → Hp → Option β
  | 0 => fun _ _ _ => none
  | n + 1 => fun v1 v3 h => f_law41_example_b2 P T D N (f_law41_example_L2 P T D N x0 n) x0 v1 v3 h
noncomputable def f_law41_example (P : Program) (T : Tab) (D : DTab) (N : Nat) {β : Type} (K : AV → Hp → Option β) (h : Hp) : Option β :=
f_law41_example_L2 P T D N (fun w11_1 h => f_law41_example_j1 P T D N K w11_1 h) N (.s (.slice none 0 0)) (.s (.int .i64 0)) h
theorem f_law41_example_b2_eq (P : Program) (T : Tab) (D : DTab) (N : Nat) {β : Type} (xn : AV → AV → Hp → Option β) (x0 : AV → Hp → Option β) (xd : Nat → St → Option β) (xq : St → Option β) (t : Tm) (h : Hp) : o_law41_example_L2 P T D N t h (fun (e : Ex) (s : St) => e.on (xn (s.1 1) (s.1 3) s.2) (fun i => (bif i == 0 then x0 (s.1 1) s.2 else (xd i s))) (xq s)) = f_law41_example_b2 P T D N xn x0 (t 1) (t 3) h := by kernel_rfl
theorem f_law41_example_L2_eq (P : Program) (T : Tab) (D : DTab) (N : Nat) {β : Type} (A : Ex → St → Option β) (x0 : AV → Hp → Option β) (q0 : ∀ s, A (.exit 0) s = x0 (s.1 1) s.2) : ∀ (n : Nat) (s : St), iterK (fun s k => o_law41_example_L2 P T D N s.1 s.2 k) n s A = f_law41_example_L2 P T D N x0 n (s.1 1) (s.1 3) s.2 := by
  intro n
  induction n with
  | zero => intro s; rfl
  | succ n ih =>
    intro s
    have hk : (fun (e : Ex) (s' : St) => Ex.on e (iterK (fun s k => o_law41_example_L2 P T D N s.1 s.2 k) n s' A) (fun i => A (.exit i) s') (A .ret s')) = (fun (e : Ex) (s : St) => e.on ((f_law41_example_L2 P T D N x0 n) (s.1 1) (s.1 3) s.2) (fun i => (bif i == 0 then x0 (s.1 1) s.2 else (A (.exit i) s))) (A .ret s)) := by
      funext e s'
      cases e with
      | normal => exact ih s'
      | ret => exact rfl
      | exit i =>
        by_cases r0 : i = 0
        · subst r0; exact q0 s'
        simp only [Ex.on, beq_false_of_ne r0, cond_false]
    show o_law41_example_L2 P T D N s.1 s.2 (fun (e : Ex) (s' : St) => Ex.on e (iterK (fun s k => o_law41_example_L2 P T D N s.1 s.2 k) n s' A) (fun i => A (.exit i) s') (A .ret s')) = _
    rw [hk]
    exact f_law41_example_b2_eq P T D N (f_law41_example_L2 P T D N x0 n) x0 (fun i s => A (.exit i) s) (fun s => A .ret s) s.1 s.2
theorem f_law41_example_old_eq (P : Program) (T : Tab) (D : DTab) (N : Nat) {β : Type} (K : AV → Hp → Option β) (h : Hp) : o_law41_example P T D N K h = f_law41_example P T D N K h := by
  have eL2 : (fun s : St => iterK (fun s k => o_law41_example_L2 P T D N s.1 s.2 k) N s (o_law41_example_aL2 P T D N K)) = (fun s : St => f_law41_example_L2 P T D N (fun w11_1 h => f_law41_example_j1 P T D N K w11_1 h) N (s.1 1) (s.1 3) s.2) := funext fun s => f_law41_example_L2_eq P T D N (o_law41_example_aL2 P T D N K) (fun w11_1 h => f_law41_example_j1 P T D N K w11_1 h) (fun s => rfl) N s
  show o_law41_example_G P T D N (fun s => iterK (fun s k => o_law41_example_L2 P T D N s.1 s.2 k) N s (o_law41_example_aL2 P T D N K)) K h = _
  rw [eL2]
  kernel_rfl
theorem o_law41_example_run (T : Tab) (D : DTab) (N : Nat) {β : Type} (K : AV → Hp → Option β) (h : Hp) : runK Try.prog T D N [0, 1, 2, 3, 4] Try.f45 K [] h = o_law41_example Try.prog T D N K  h := by kernel_rfl
theorem f_law41_example_run (T : Tab) (D : DTab) (N : Nat) {β : Type} (K : AV → Hp → Option β) (h : Hp) : runK Try.prog T D N [0, 1, 2, 3, 4] Try.f45 K [] h = f_law41_example Try.prog T D N K  h := (o_law41_example_run T D N K  h).trans (f_law41_example_old_eq Try.prog T D N K  h)
noncomputable def o_slices_Equal_int_j1 (P : Program) (T : Tab) (D : DTab) (N : Nat) {β : Type} (K : AV → Hp → Option β) (t : Tm) (h : Hp) : Option β :=
K (.s (.bool true)) h
noncomputable def o_slices_Equal_int_L2 (P : Program) (T : Tab) (D : DTab) (N : Nat) {β : Type} (t : Tm) (h : Hp) (k : Ex → St → Option β) : Option β :=
arithK .lss (t 13) (t 12) fun x5 =>
condK x5 (
iaK 1 (t 0) (t 13) fun x6 =>
ldK 1 false x6 h fun x7 =>
iaK 1 (t 1) (t 13) fun x8 =>
ldK 1 false x8 h fun x9 =>
eqK P true 3 x7 x9 h fun x10 =>
condK x10 (
k .ret ((upd (upd (upd (upd t 14 x5) 5 (t 13)) 24 x10) 4 (.s (.bool false))), h)) (
arithK .add (t 13) (.s (.int .i64 1)) fun x11 =>
k .normal ((upd (upd (upd (upd t 14 x5) 5 (t 13)) 24 x10) 13 x11), h))) (
k (.exit 0) ((upd t 14 x5), h))
noncomputable def o_slices_Equal_int_aL2 (P : Program) (T : Tab) (D : DTab) (N : Nat) {β : Type} (K : AV → Hp → Option β) (e : Ex) (s : St) : Option β :=
  e.on ((o_slices_Equal_int_j1 P T D N K s.1 s.2))
  (fun i => bif i == 0 then ((o_slices_Equal_int_j1 P T D N K s.1 s.2)) else (none))
  (K (s.1 4) s.2)
noncomputable def o_slices_Equal_int_G (P : Program) (T : Tab) (D : DTab) (N : Nat) {β : Type} (cL2 : St → Option β) (K : AV → Hp → Option β) (a0 : AV) (a1 : AV) (h : Hp) :  Option β :=
lenK a0 fun x1 =>
lenK a1 fun x2 =>
eqK P true 3 x1 x2 h fun x3 =>
condK x3 (
K (.s (.bool false)) h) (
lenK a0 fun x4 =>
cL2 ((upd (upd (upd (upd (tm0 [a0, a1]) 4 (.s (.bool false))) 10 x3) 12 x4) 13 (.s (.int .i64 0))), h))
noncomputable def o_slices_Equal_int (P : Program) (T : Tab) (D : DTab) (N : Nat) {β : Type} (K : AV → Hp → Option β) (a0 : AV) (a1 : AV) (h : Hp) : Option β := o_slices_Equal_int_G P T D N (fun s => iterK (fun s k => o_slices_Equal_int_L2 P T D N s.1 s.2 k) N s (o_slices_Equal_int_aL2 P T D N K)) K a0 a1 h
noncomputable def f_slices_Equal_int_j1 (P : Program) (T : Tab) (D : DTab) (N : Nat) {β : Type} (K : AV → Hp → Option β) (h : Hp) : Option β :=
K (.s (.bool true)) h
noncomputable def f_slices_Equal_int_b2 (P : Program) (T : Tab) (D : DTab) (N : Nat) {β : Type} (xn : AV → AV → AV → AV → Hp → Option β) (x0 : Hp → Option β) (xr : AV → Hp → Option β) (v0 : AV) (v1 : AV) (v12 : AV) (v13 : AV) (h : Hp) : Option β :=
arithK .lss v13 v12 fun x5 =>
condK x5 (
iaK 1 v0 v13 fun x6 =>
ldK 1 false x6 h fun x7 =>
iaK 1 v1 v13 fun x8 =>
ldK 1 false x8 h fun x9 =>
eqK P true 3 x7 x9 h fun x10 =>
condK x10 (
xr (.s (.bool false)) h) (
arithK .add v13 (.s (.int .i64 1)) fun x11 =>
xn v0 v1 v12 x11 h)) (
x0 h)
noncomputable def f_slices_Equal_int_L2 (P : Program) (T : Tab) (D : DTab) (N : Nat) {β : Type} (x0 : Hp → Option β) (xr : AV → Hp → Option β) : Nat → AV → AV → AV → AV → Hp → Option β
  | 0 => fun _ _ _ _ _ => none
  | n + 1 => fun v0 v1 v12 v13 h => f_slices_Equal_int_b2 P T D N (f_slices_Equal_int_L2 P T D N x0 xr n) x0 xr v0 v1 v12 v13 h
noncomputable def f_slices_Equal_int (P : Program) (T : Tab) (D : DTab) (N : Nat) {β : Type} (K : AV → Hp → Option β) (a0 : AV) (a1 : AV) (h : Hp) : Option β :=
lenK a0 fun x1 =>
lenK a1 fun x2 =>
eqK P true 3 x1 x2 h fun x3 =>
condK x3 (
K (.s (.bool false)) h) (
lenK a0 fun x4 =>
f_slices_Equal_int_L2 P T D N (fun h => f_slices_Equal_int_j1 P T D N K h) (fun w13_4 h => K w13_4 h) N a0 a1 x4 (.s (.int .i64 0)) h)
theorem f_slices_Equal_int_b2_eq (P : Program) (T : Tab) (D : DTab) (N : Nat) {β : Type} (xn : AV → AV → AV → AV → Hp → Option β) (x0 : Hp → Option β) (xr : AV → Hp → Option β) (xd : Nat → St → Option β) (xq : St → Option β) (t : Tm) (h : Hp) : o_slices_Equal_int_L2 P T D N t h (fun (e : Ex) (s : St) => e.on (xn (s.1 0) (s.1 1) (s.1 12) (s.1 13) s.2) (fun i => (bif i == 0 then x0 s.2 else (xd i s))) (xr (s.1 4) s.2)) = f_slices_Equal_int_b2 P T D N xn x0 xr (t 0) (t 1) (t 12) (t 13) h := by kernel_rfl
theorem f_slices_Equal_int_L2_eq (P : Program) (T : Tab) (D : DTab) (N : Nat) {β : Type} (A : Ex → St → Option β) (x0 : Hp → Option β) (xr : AV → Hp → Option β) (q0 : ∀ s, A (.exit 0) s = x0 s.2) (qr : ∀ s, A .ret s = xr (s.1 4) s.2) : ∀ (n : Nat) (s : St), iterK (fun s k => o_slices_Equal_int_L2 P T D N s.1 s.2 k) n s A = f_slices_Equal_int_L2 P T D N x0 xr n (s.1 0) (s.1 1) (s.1 12) (s.1 13) s.2 := by
  intro n
  induction n with
  | zero => intro s; rfl
  | succ n ih =>
    intro s
    have hk : (fun (e : Ex) (s' : St) => Ex.on e (iterK (fun s k => o_slices_Equal_int_L2 P T D N s.1 s.2 k) n s' A) (fun i => A (.exit i) s') (A .ret s')) = (fun (e : Ex) (s : St) => e.on ((f_slices_Equal_int_L2 P T D N x0 xr n) (s.1 0) (s.1 1) (s.1 12) (s.1 13) s.2) (fun i => (bif i == 0 then x0 s.2 else (A (.exit i) s))) (xr (s.1 4) s.2)) := by
      funext e s'
      cases e with
      | normal => exact ih s'
      | ret => exact qr s'
      | exit i =>
        by_cases r0 : i = 0
        · subst r0; exact q0 s'
        simp only [Ex.on, beq_false_of_ne r0, cond_false]
    show o_slices_Equal_int_L2 P T D N s.1 s.2 (fun (e : Ex) (s' : St) => Ex.on e (iterK (fun s k => o_slices_Equal_int_L2 P T D N s.1 s.2 k) n s' A) (fun i => A (.exit i) s') (A .ret s')) = _
    rw [hk]
    exact f_slices_Equal_int_b2_eq P T D N (f_slices_Equal_int_L2 P T D N x0 xr n) x0 xr (fun i s => A (.exit i) s) (fun s => A .ret s) s.1 s.2
theorem f_slices_Equal_int_old_eq (P : Program) (T : Tab) (D : DTab) (N : Nat) {β : Type} (K : AV → Hp → Option β) (a0 : AV) (a1 : AV) (h : Hp) : o_slices_Equal_int P T D N K a0 a1 h = f_slices_Equal_int P T D N K a0 a1 h := by
  have eL2 : (fun s : St => iterK (fun s k => o_slices_Equal_int_L2 P T D N s.1 s.2 k) N s (o_slices_Equal_int_aL2 P T D N K)) = (fun s : St => f_slices_Equal_int_L2 P T D N (fun h => f_slices_Equal_int_j1 P T D N K h) (fun w13_4 h => K w13_4 h) N (s.1 0) (s.1 1) (s.1 12) (s.1 13) s.2) := funext fun s => f_slices_Equal_int_L2_eq P T D N (o_slices_Equal_int_aL2 P T D N K) (fun h => f_slices_Equal_int_j1 P T D N K h) (fun w13_4 h => K w13_4 h) (fun s => rfl) (fun s => rfl) N s
  show o_slices_Equal_int_G P T D N (fun s => iterK (fun s k => o_slices_Equal_int_L2 P T D N s.1 s.2 k) N s (o_slices_Equal_int_aL2 P T D N K)) K a0 a1 h = _
  rw [eL2]
  kernel_rfl
theorem o_slices_Equal_int_run (T : Tab) (D : DTab) (N : Nat) {β : Type} (K : AV → Hp → Option β) (a0 : AV) (a1 : AV) (h : Hp) : runK Try.prog T D N [0, 1, 4, 5, 10, 12, 13, 14, 24] Try.f46 K [a0, a1] h = o_slices_Equal_int Try.prog T D N K a0 a1 h := by kernel_rfl
theorem f_slices_Equal_int_run (T : Tab) (D : DTab) (N : Nat) {β : Type} (K : AV → Hp → Option β) (a0 : AV) (a1 : AV) (h : Hp) : runK Try.prog T D N [0, 1, 4, 5, 10, 12, 13, 14, 24] Try.f46 K [a0, a1] h = f_slices_Equal_int Try.prog T D N K a0 a1 h := (o_slices_Equal_int_run T D N K a0 a1 h).trans (f_slices_Equal_int_old_eq Try.prog T D N K a0 a1 h)
noncomputable def f_document_Check_j1 (P : Program) (T : Tab) (D : DTab) (N : Nat) {β : Type} (K : AV → Hp → Option β) (v1 : AV) (v3 : AV) (v4 : AV) (h : Hp) : Option β :=
notK v4 fun x47 =>
grpK false x47 h (fun k48 =>
ldK 7 true v1 h fun x49 =>
ldK 7 true v3 h fun x50 =>
eqK P true 31 x49 x50 h fun x51 =>
k48 x51 h) fun x52 h53 =>
condK x52 (
K (.s (.int .i64 1)) h53) (
K (.s (.int .i64 0)) h53)
noncomputable def f_document_Check_j2 (P : Program) (T : Tab) (D : DTab) (N : Nat) {β : Type} (K : AV → Hp → Option β) (v1 : AV) (v3 : AV) (v4 : AV) (h : Hp) : Option β :=
f_document_Check_j1 P T D N K v1 v3 v4 h
noncomputable def f_document_Check (P : Program) (T : Tab) (D : DTab) (N : Nat) {β : Type} (K : AV → Hp → Option β) (a0 : AV) (h : Hp) : Option β :=
effK (boxE 7 a0 (List.length h)) h fun x1 h2 =>
faK 0 x1 fun x3 =>
ldK 1 false x3 h2 fun x4 =>
arithK .lss x4 (.s (.int .i64 1)) fun x5 =>
grpK false x5 h2 (fun k6 =>
faK 0 x1 fun x7 =>
ldK 1 false x7 h2 fun x8 =>
arithK .gtr x8 (.s (.int .i64 1073741824)) fun x9 =>
k6 x9 h2) fun x10 h11 =>
grpK false x10 h11 (fun k12 =>
faK 1 x1 fun x13 =>
ldK 1 false x13 h11 fun x14 =>
arithK .lss x14 (.s (.int .i64 1)) fun x15 =>
k12 x15 h11) fun x16 h17 =>
grpK false x16 h17 (fun k18 =>
faK 1 x1 fun x19 =>
ldK 1 false x19 h17 fun x20 =>
arithK .gtr x20 (.s (.int .i64 5)) fun x21 =>
k18 x21 h17) fun x22 h23 =>
grpK false x22 h23 (fun k24 =>
faK 3 x1 fun x25 =>
ldK 1 false x25 h23 fun x26 =>
arithK .lss x26 (.s (.int .i64 0)) fun x27 =>
k24 x27 h23) fun x28 h29 =>
grpK false x28 h29 (fun k30 =>
faK 3 x1 fun x31 =>
ldK 1 false x31 h29 fun x32 =>
arithK .gtr x32 (.s (.int .i64 100000)) fun x33 =>
k30 x33 h29) fun x34 h35 =>
condK x34 (
K (.s (.int .i64 2)) h35) (
faK 0 x1 fun x36 =>
ldK 1 false x36 h35 fun x37 =>
faK 1 x1 fun x38 =>
ldK 1 false x38 h35 fun x39 =>
faK 3 x1 fun x40 =>
ldK 1 false x40 h35 fun x41 =>
buildK [.s (.int .i64 0), .s (.int .i64 0), .s (.int .i64 0), .s (.int .i64 0), .s (.int .i64 0), .s (.int .i64 0), .s (.int .i64 0)] [(some (0, 1), x37), (some (1, 1), x39), (some (3, 1), x41)] fun x42 =>
effK (boxE 7 (.agg [.s (.int .i64 0), .s (.int .i64 0), .s (.int .i64 0), .s (.int .i64 0), .s (.int .i64 0), .s (.int .i64 0), .s (.int .i64 0)]) (List.length h35)) h35 fun x43 h44 =>
effK (stE 7 x43 x42 h44) h44 fun x45 h46 =>
faK 1 x1 fun x54 =>
ldK 1 false x54 h46 fun x55 =>
eqK P false 3 x55 (.s (.int .i64 1)) h46 fun x56 =>
condK x56 (
faK 4 x1 fun x57 =>
ldK 1 false x57 h46 fun x58 =>
faK 5 x1 fun x59 =>
ldK 1 false x59 h46 fun x60 =>
faK 6 x1 fun x61 =>
ldK 1 false x61 h46 fun x62 =>
faK 4 x43 fun x63 =>
effD (stE 1 x63 x58 h46) h46 fun x64 h65 e66 =>
faK 5 x43 fun x67 =>
effD (stE 1 x67 x60 h65) h65 fun x68 h69 e70 =>
faK 6 x43 fun x71 =>
effD (stE 1 x71 x62 h69) h69 fun x72 h73 e74 =>
bif disjAll [(3, 7), (5, 7), (5, 9)] [([], []), ((idsOf x57), []), ([], []), ((idsOf x59), []), ([], []), ((idsOf x61), []), ([], []), e66, ([], []), e70, ([], []), e74] then (
faK 4 x1 fun x75 =>
ldK 1 false x75 h73 fun x76 =>
callK (T 67) [x76] h73 fun x77 h78 =>
grpK true x77 h78 (fun k79 =>
faK 5 x1 fun x80 =>
ldK 1 false x80 h78 fun x81 =>
callK (T 67) [x81] h78 fun x82 h83 =>
k79 x82 h83) fun x84 h85 =>
grpK true x84 h85 (fun k86 =>
faK 4 x1 fun x87 =>
ldK 1 false x87 h85 fun x88 =>
faK 5 x1 fun x89 =>
ldK 1 false x89 h85 fun x90 =>
eqK P true 3 x88 x90 h85 fun x91 =>
k86 x91 h85) fun x92 h93 =>
grpK true x92 h93 (fun k94 =>
faK 6 x1 fun x95 =>
ldK 1 false x95 h93 fun x96 =>
arithK .geq x96 (.s (.int .i64 1)) fun x97 =>
k94 x97 h93) fun x98 h99 =>
grpK true x98 h99 (fun k100 =>
faK 6 x1 fun x101 =>
ldK 1 false x101 h99 fun x102 =>
arithK .leq x102 (.s (.int .i64 10737418240000)) fun x103 =>
k100 x103 h99) fun x104 h105 =>
f_document_Check_j2 P T D N K x1 x43 x104 h105) else none) (
eqK P false 3 x55 (.s (.int .i64 2)) h46 fun x106 =>
condK x106 (
faK 2 x1 fun x107 =>
ldK 1 false x107 h46 fun x108 =>
faK 5 x1 fun x109 =>
ldK 1 false x109 h46 fun x110 =>
faK 2 x43 fun x111 =>
effD (stE 1 x111 x108 h46) h46 fun x112 h113 e114 =>
faK 5 x43 fun x115 =>
effD (stE 1 x115 x110 h113) h113 fun x116 h117 e118 =>
bif disjAll [(3, 5)] [([], []), ((idsOf x107), []), ([], []), ((idsOf x109), []), ([], []), e114, ([], []), e118] then (
faK 2 x1 fun x119 =>
ldK 1 false x119 h117 fun x120 =>
arithK .geq x120 (.s (.int .i64 1)) fun x121 =>
grpK true x121 h117 (fun k122 =>
faK 2 x1 fun x123 =>
ldK 1 false x123 h117 fun x124 =>
arithK .leq x124 (.s (.int .i64 64)) fun x125 =>
k122 x125 h117) fun x126 h127 =>
grpK true x126 h127 (fun k128 =>
faK 5 x1 fun x129 =>
ldK 1 false x129 h127 fun x130 =>
callK (T 67) [x130] h127 fun x131 h132 =>
k128 x131 h132) fun x133 h134 =>
f_document_Check_j2 P T D N K x1 x43 x133 h134) else none) (
eqK P false 3 x55 (.s (.int .i64 3)) h46 fun x135 =>
condK x135 (
faK 6 x1 fun x136 =>
ldK 1 false x136 h46 fun x137 =>
faK 6 x43 fun x138 =>
effK (stE 1 x138 x137 h46) h46 fun x139 h140 =>
faK 6 x1 fun x141 =>
ldK 1 false x141 h140 fun x142 =>
arithK .geq x142 (.s (.int .i64 0)) fun x143 =>
grpK true x143 h140 (fun k144 =>
faK 6 x1 fun x145 =>
ldK 1 false x145 h140 fun x146 =>
arithK .leq x146 (.s (.int .i64 10737418240000)) fun x147 =>
k144 x147 h140) fun x148 h149 =>
f_document_Check_j2 P T D N K x1 x43 x148 h149) (
f_document_Check_j2 P T D N K x1 x43 (.s (.bool true)) h46))))
theorem f_document_Check_run (T : Tab) (D : DTab) (N : Nat) {β : Type} (K : AV → Hp → Option β) (a0 : AV) (h : Hp) : runK Try.prog T D N [0, 1, 2, 3, 4, 32, 41, 42, 78, 99, 118] Try.f47 K [a0] h = f_document_Check Try.prog T D N K a0 h := by kernel_rfl
noncomputable def lpp_network_to_0 : Array Tmp := (rangeOf Try.f49 0).1
noncomputable def lpa_network_to_0 : Code := (rangeOf Try.f49 0).2.1
noncomputable def lpb_network_to_0 : Code := (rangeOf Try.f49 0).2.2
noncomputable def lpm_network_to_0 : Nat := needR lpa_network_to_0 lpb_network_to_0
noncomputable def f_network_to_j1 (P : Program) (T : Tab) (D : DTab) (N : Nat) {β : Type} (K : AV → Hp → Option β) (v9 : AV) (h : Hp) : Option β :=
ldK 1 false v9 h fun x17 =>
K (.tup [x17, (.s (.int .i64 0))]) h
noncomputable def f_network_to_j2 (P : Program) (T : Tab) (D : DTab) (N : Nat) {β : Type} (xn : Hp → Option β) (h : Hp) : Option β :=
xn h
noncomputable def f_network_to_R0 (P : Program) (T : Tab) (D : DTab) (N : Nat) {β : Type} (L : Nat) (ts : Tm) (xn : Hp → Option β) (v5 : AV) (v9 : AV) (v28 : AV) (h : Hp) : Option β :=
effK (boxE 10 (.agg [.s (.int .i64 0), .s (.int .i64 0), .s (.int .i64 0), .s (.int .i64 0), .s (.int .i64 0), .s (.int .i64 0), .s (.int .i64 0), .s (.int .i64 0), .s (.int .i64 0), .s (.int .i64 0)]) (List.length h)) h fun x18 h19 =>
effK (stE 10 x18 v28 h19) h19 fun x20 h21 =>
beginX L (lpm_network_to_0) (lpp_network_to_0) (lpa_network_to_0) (lpb_network_to_0) ts h21 fun h22 =>
faK 1 x18 fun x23 =>
ldK 1 false x23 h22 fun x24 =>
ldK 1 false v5 h22 fun x25 =>
eqK P false 3 x24 x25 h22 fun x26 =>
condK x26 (
ldK 1 false v9 h22 fun x27 =>
ldK 10 true x18 h22 fun x28 =>
effK (bsE 10 [.s (.int .i64 0), .s (.int .i64 0), .s (.int .i64 0), .s (.int .i64 0), .s (.int .i64 0), .s (.int .i64 0), .s (.int .i64 0), .s (.int .i64 0), .s (.int .i64 0), .s (.int .i64 0)] 1 [(0, x28)] (List.length h22)) h22 fun x29 h30 =>
effK (appE 10 80 x27 x29 h30 (List.length h30)) h30 fun x31 h32 =>
effK (stE 1 v9 x31 h32) h32 fun x33 h34 =>
f_network_to_j2 P T D N xn h34) (
f_network_to_j2 P T D N xn h22)
theorem f_network_to_R0_run (T : Tab) (D : DTab) (N L : Nat) (v5 : AV) (v9 : AV) (v27 : AV) (v28 : AV) (h : Hp) : roundF Try.prog T D N [0, 1, 2, 5, 6, 7, 8, 9, 11, 16, 23, 26, 27, 28, 32] 3 L (lpm_network_to_0) (lpp_network_to_0) (lpa_network_to_0) (lpb_network_to_0) (envT [(5, v5), (9, v9)]) [v27, v28] h = f_network_to_R0 Try.prog T D N L (envT [(5, v5), (9, v9)]) (fun h => some (.s (.bool true), h.set L (.loop (lpm_network_to_0) (lpp_network_to_0) (lpa_network_to_0) (lpb_network_to_0) (envT [(5, v5), (9, v9)]) .ready none))) v5 v9 v28 h := by kernel_rfl
noncomputable def f_network_to (P : Program) (T : Tab) (D : DTab) (N : Nat) {β : Type} (K : AV → Hp → Option β) (a0 : AV) (a1 : AV) (a2 : AV) (h : Hp) : Option β :=
effK (boxE 1 a2 (List.length h)) h fun x1 h2 =>
callK (T 53) [a0, a1] h2 fun x3 h4 =>
eqK P true 26 x3 (.s (.int .i64 0)) h4 fun x5 =>
condK x5 (
K (.tup [(.s (.slice none 0 0)), x3]) h4) (
ldK 1 false x1 h4 fun x6 =>
arithK .lss x6 (.s (.int .i64 1)) fun x7 =>
grpK false x7 h4 (fun k8 =>
ldK 1 false x1 h4 fun x9 =>
arithK .gtr x9 (.s (.int .i64 99)) fun x10 =>
k8 x10 h4) fun x11 h12 =>
condK x11 (
K (.tup [(.s (.slice none 0 0)), (.s (.int .i64 2))]) h12) (
effK (boxE 1 (.s (.slice none 0 0)) (List.length h12)) h12 fun x13 h14 =>
callK (T 69) [a0, a1] h14 fun x15 h16 =>
rangeX T x15 (lpm_network_to_0) (lpp_network_to_0) (lpa_network_to_0) (lpb_network_to_0) (envT [(5, x1), (9, x13)]) h16 fun pd h35 =>
jumpC pd (
f_network_to_j1 P T D N K x13 h35) (fun i36 => bif i36 == 0 then (f_network_to_j1 P T D N K x13 h35) else (none)) (
K (.tup [(.s (.slice none 0 0)), (.s (.int .i64 0))]) h35)))
theorem f_network_to_run (T : Tab) (D : DTab) (N : Nat) {β : Type} (K : AV → Hp → Option β) (a0 : AV) (a1 : AV) (a2 : AV) (h : Hp) : runK Try.prog T D N [0, 1, 2, 5, 6, 7, 8, 9, 11, 16, 23, 26, 27, 28, 32] Try.f49 K [a0, a1, a2] h = f_network_to Try.prog T D N K a0 a1 a2 h := by kernel_rfl
noncomputable def f_network_asked (P : Program) (T : Tab) (D : DTab) (N : Nat) {β : Type} (K : AV → Hp → Option β) (a0 : AV) (a1 : AV) (h : Hp) : Option β :=
effK (boxE 1 a0 (List.length h)) h fun x1 h2 =>
ldK 1 false x1 h2 fun x3 =>
callK (T 12) [x3] h2 fun x4 h5 =>
exK x4 0 fun x6 =>
exK x4 1 fun x7 =>
eqK P true 26 x7 (.s (.int .i64 0)) h5 fun x8 =>
condK x8 (
K (.s (.int .i64 1)) h5) (
lenK a1 fun x9 =>
arithK .gtr x9 (.s (.int .i64 256)) fun x10 =>
condK x10 (
K (.s (.int .i64 8)) h5) (
callK (T 72) [a1, (.fn 73 [x1])] h5 fun x11 h12 =>
condK x11 (
K (.s (.int .i64 2)) h12) (
K (.s (.int .i64 0)) h12)))
theorem f_network_asked_run (T : Tab) (D : DTab) (N : Nat) {β : Type} (K : AV → Hp → Option β) (a0 : AV) (a1 : AV) (h : Hp) : runK Try.prog T D N [0, 1, 2, 4, 6, 12, 15, 19] Try.f53 K [a0, a1] h = f_network_asked Try.prog T D N K a0 a1 h := by kernel_rfl
noncomputable def lpp_network_firsts_0 : Array Tmp := (rangeOf Try.f54 0).1
noncomputable def lpa_network_firsts_0 : Code := (rangeOf Try.f54 0).2.1
noncomputable def lpb_network_firsts_0 : Code := (rangeOf Try.f54 0).2.2
noncomputable def lpm_network_firsts_0 : Nat := needR lpa_network_firsts_0 lpb_network_firsts_0
noncomputable def f_network_firsts_j1 (P : Program) (T : Tab) (D : DTab) (N : Nat) {β : Type} (K : AV → Hp → Option β) (v5 : AV) (h : Hp) : Option β :=
ldK 1 false v5 h fun x13 =>
K x13 h
noncomputable def f_network_firsts_j2 (P : Program) (T : Tab) (D : DTab) (N : Nat) {β : Type} (xn : Hp → Option β) (v6 : AV) (h : Hp) : Option β :=
ldK 1 false v6 h fun x15 =>
arithK .add x15 (.s (.int .i64 1)) fun x16 =>
effK (stE 1 v6 x16 h) h fun x17 h18 =>
xn h18
noncomputable def f_network_firsts_R0 (P : Program) (T : Tab) (D : DTab) (N : Nat) {β : Type} (L : Nat) (ts : Tm) (xn : Hp → Option β) (v5 : AV) (v6 : AV) (v14 : AV) (h : Hp) : Option β :=
beginX L (lpm_network_firsts_0) (lpp_network_firsts_0) (lpa_network_firsts_0) (lpb_network_firsts_0) ts h fun h14 =>
ldK 1 false v5 h14 fun x19 =>
lookK P 3 (.s (.int .i64 0)) true x19 v14 h14 fun x20 =>
exK x20 0 fun x21 =>
exK x20 1 fun x22 =>
notK x22 fun x23 =>
condK x23 (
ldK 1 false v5 h14 fun x24 =>
ldK 1 false v6 h14 fun x25 =>
effK (mupE P 3 x24 v14 x25 h14) h14 fun x26 h27 =>
f_network_firsts_j2 P T D N xn v6 h27) (
f_network_firsts_j2 P T D N xn v6 h14)
theorem f_network_firsts_R0_run (T : Tab) (D : DTab) (N L : Nat) (v5 : AV) (v6 : AV) (v14 : AV) (v15 : AV) (h : Hp) : roundF Try.prog T D N [0, 1, 4, 5, 6, 7, 9, 13, 14, 15, 23] 2 L (lpm_network_firsts_0) (lpp_network_firsts_0) (lpa_network_firsts_0) (lpb_network_firsts_0) (envT [(5, v5), (6, v6)]) [v14, v15] h = f_network_firsts_R0 Try.prog T D N L (envT [(5, v5), (6, v6)]) (fun h => some (.s (.bool true), h.set L (.loop (lpm_network_firsts_0) (lpp_network_firsts_0) (lpa_network_firsts_0) (lpb_network_firsts_0) (envT [(5, v5), (6, v6)]) .ready none))) v5 v6 v14 h := by kernel_rfl
noncomputable def f_network_firsts (P : Program) (T : Tab) (D : DTab) (N : Nat) {β : Type} (K : AV → Hp → Option β) (a0 : AV) (a1 : AV) (h : Hp) : Option β :=
effK (some (.mp (List.length h), EN (.map []))) h fun x1 h2 =>
effK (boxE 1 (.s (.map none)) (List.length h2)) h2 fun x3 h4 =>
effK (stE 1 x3 x1 h4) h4 fun x5 h6 =>
effK (boxE 1 (.s (.int .i64 0)) (List.length h6)) h6 fun x7 h8 =>
effK (stE 1 x7 (.s (.int .i64 0)) h8) h8 fun x9 h10 =>
callK (T 69) [a0, a1] h10 fun x11 h12 =>
rangeX T x11 (lpm_network_firsts_0) (lpp_network_firsts_0) (lpa_network_firsts_0) (lpb_network_firsts_0) (envT [(5, x3), (6, x7)]) h12 fun pd h28 =>
jumpC pd (
f_network_firsts_j1 P T D N K x3 h28) (fun i29 => bif i29 == 0 then (f_network_firsts_j1 P T D N K x3 h28) else (none)) (
K (.s (.map none)) h28)
theorem f_network_firsts_run (T : Tab) (D : DTab) (N : Nat) {β : Type} (K : AV → Hp → Option β) (a0 : AV) (a1 : AV) (h : Hp) : runK Try.prog T D N [0, 1, 4, 5, 6, 7, 9, 13, 14, 15, 23] Try.f54 K [a0, a1] h = f_network_firsts Try.prog T D N K a0 a1 h := by kernel_rfl
noncomputable def o_slices_IndexFunc_Envelope_j1 (P : Program) (T : Tab) (D : DTab) (N : Nat) {β : Type} (K : AV → Hp → Option β) (t : Tm) (h : Hp) : Option β :=
K (.s (.int .i64 (-1))) h
noncomputable def o_slices_IndexFunc_Envelope_L2 (P : Program) (T : Tab) (D : DTab) (N : Nat) {β : Type} (t : Tm) (h : Hp) (k : Ex → St → Option β) : Option β :=
arithK .lss (t 8) (t 7) fun x2 =>
condK x2 (
iaK 10 (t 0) (t 8) fun x3 =>
ldK 10 true x3 h fun x4 =>
callVK T (t 1) [x4] h fun x5 h6 =>
condK x5 (
k .ret ((upd (upd (upd (upd t 9 x2) 5 (t 8)) 16 x5) 4 (t 8)), h6)) (
arithK .add (t 8) (.s (.int .i64 1)) fun x7 =>
k .normal ((upd (upd (upd (upd t 9 x2) 5 (t 8)) 16 x5) 8 x7), h6))) (
k (.exit 0) ((upd t 9 x2), h))
noncomputable def o_slices_IndexFunc_Envelope_aL2 (P : Program) (T : Tab) (D : DTab) (N : Nat) {β : Type} (K : AV → Hp → Option β) (e : Ex) (s : St) : Option β :=
  e.on ((o_slices_IndexFunc_Envelope_j1 P T D N K s.1 s.2))
  (fun i => bif i == 0 then ((o_slices_IndexFunc_Envelope_j1 P T D N K s.1 s.2)) else (none))
  (K (s.1 4) s.2)
noncomputable def o_slices_IndexFunc_Envelope_G (P : Program) (T : Tab) (D : DTab) (N : Nat) {β : Type} (cL2 : St → Option β) (K : AV → Hp → Option β) (a0 : AV) (a1 : AV) (h : Hp) :  Option β :=
lenK a0 fun x1 =>
cL2 ((upd (upd (upd (tm0 [a0, a1]) 4 (.s (.int .i64 0))) 7 x1) 8 (.s (.int .i64 0))), h)
noncomputable def o_slices_IndexFunc_Envelope (P : Program) (T : Tab) (D : DTab) (N : Nat) {β : Type} (K : AV → Hp → Option β) (a0 : AV) (a1 : AV) (h : Hp) : Option β := o_slices_IndexFunc_Envelope_G P T D N (fun s => iterK (fun s k => o_slices_IndexFunc_Envelope_L2 P T D N s.1 s.2 k) N s (o_slices_IndexFunc_Envelope_aL2 P T D N K)) K a0 a1 h
noncomputable def f_slices_IndexFunc_Envelope_j1 (P : Program) (T : Tab) (D : DTab) (N : Nat) {β : Type} (K : AV → Hp → Option β) (h : Hp) : Option β :=
K (.s (.int .i64 (-1))) h
noncomputable def f_slices_IndexFunc_Envelope_b2 (P : Program) (T : Tab) (D : DTab) (N : Nat) {β : Type} (xn : AV → AV → AV → AV → Hp → Option β) (x0 : Hp → Option β) (xr : AV → Hp → Option β) (v0 : AV) (v1 : AV) (v7 : AV) (v8 : AV) (h : Hp) : Option β :=
arithK .lss v8 v7 fun x2 =>
condK x2 (
iaK 10 v0 v8 fun x3 =>
ldK 10 true x3 h fun x4 =>
callVK T v1 [x4] h fun x5 h6 =>
condK x5 (
xr v8 h6) (
arithK .add v8 (.s (.int .i64 1)) fun x7 =>
xn v0 v1 v7 x7 h6)) (
x0 h)
noncomputable def f_slices_IndexFunc_Envelope_L2 (P : Program) (T : Tab) (D : DTab) (N : Nat) {β : Type} (x0 : Hp → Option β) (xr : AV → Hp → Option β) : Nat → AV → AV → AV → AV → Hp → Option β
  | 0 => fun _ _ _ _ _ => none
  | n + 1 => fun v0 v1 v7 v8 h => f_slices_IndexFunc_Envelope_b2 P T D N (f_slices_IndexFunc_Envelope_L2 P T D N x0 xr n) x0 xr v0 v1 v7 v8 h
noncomputable def f_slices_IndexFunc_Envelope (P : Program) (T : Tab) (D : DTab) (N : Nat) {β : Type} (K : AV → Hp → Option β) (a0 : AV) (a1 : AV) (h : Hp) : Option β :=
lenK a0 fun x1 =>
f_slices_IndexFunc_Envelope_L2 P T D N (fun h => f_slices_IndexFunc_Envelope_j1 P T D N K h) (fun w9_4 h => K w9_4 h) N a0 a1 x1 (.s (.int .i64 0)) h
theorem f_slices_IndexFunc_Envelope_b2_eq (P : Program) (T : Tab) (D : DTab) (N : Nat) {β : Type} (xn : AV → AV → AV → AV → Hp → Option β) (x0 : Hp → Option β) (xr : AV → Hp → Option β) (xd : Nat → St → Option β) (xq : St → Option β) (t : Tm) (h : Hp) : o_slices_IndexFunc_Envelope_L2 P T D N t h (fun (e : Ex) (s : St) => e.on (xn (s.1 0) (s.1 1) (s.1 7) (s.1 8) s.2) (fun i => (bif i == 0 then x0 s.2 else (xd i s))) (xr (s.1 4) s.2)) = f_slices_IndexFunc_Envelope_b2 P T D N xn x0 xr (t 0) (t 1) (t 7) (t 8) h := by kernel_rfl
theorem f_slices_IndexFunc_Envelope_L2_eq (P : Program) (T : Tab) (D : DTab) (N : Nat) {β : Type} (A : Ex → St → Option β) (x0 : Hp → Option β) (xr : AV → Hp → Option β) (q0 : ∀ s, A (.exit 0) s = x0 s.2) (qr : ∀ s, A .ret s = xr (s.1 4) s.2) : ∀ (n : Nat) (s : St), iterK (fun s k => o_slices_IndexFunc_Envelope_L2 P T D N s.1 s.2 k) n s A = f_slices_IndexFunc_Envelope_L2 P T D N x0 xr n (s.1 0) (s.1 1) (s.1 7) (s.1 8) s.2 := by
  intro n
  induction n with
  | zero => intro s; rfl
  | succ n ih =>
    intro s
    have hk : (fun (e : Ex) (s' : St) => Ex.on e (iterK (fun s k => o_slices_IndexFunc_Envelope_L2 P T D N s.1 s.2 k) n s' A) (fun i => A (.exit i) s') (A .ret s')) = (fun (e : Ex) (s : St) => e.on ((f_slices_IndexFunc_Envelope_L2 P T D N x0 xr n) (s.1 0) (s.1 1) (s.1 7) (s.1 8) s.2) (fun i => (bif i == 0 then x0 s.2 else (A (.exit i) s))) (xr (s.1 4) s.2)) := by
      funext e s'
      cases e with
      | normal => exact ih s'
      | ret => exact qr s'
      | exit i =>
        by_cases r0 : i = 0
        · subst r0; exact q0 s'
        simp only [Ex.on, beq_false_of_ne r0, cond_false]
    show o_slices_IndexFunc_Envelope_L2 P T D N s.1 s.2 (fun (e : Ex) (s' : St) => Ex.on e (iterK (fun s k => o_slices_IndexFunc_Envelope_L2 P T D N s.1 s.2 k) n s' A) (fun i => A (.exit i) s') (A .ret s')) = _
    rw [hk]
    exact f_slices_IndexFunc_Envelope_b2_eq P T D N (f_slices_IndexFunc_Envelope_L2 P T D N x0 xr n) x0 xr (fun i s => A (.exit i) s) (fun s => A .ret s) s.1 s.2
theorem f_slices_IndexFunc_Envelope_old_eq (P : Program) (T : Tab) (D : DTab) (N : Nat) {β : Type} (K : AV → Hp → Option β) (a0 : AV) (a1 : AV) (h : Hp) : o_slices_IndexFunc_Envelope P T D N K a0 a1 h = f_slices_IndexFunc_Envelope P T D N K a0 a1 h := by
  have eL2 : (fun s : St => iterK (fun s k => o_slices_IndexFunc_Envelope_L2 P T D N s.1 s.2 k) N s (o_slices_IndexFunc_Envelope_aL2 P T D N K)) = (fun s : St => f_slices_IndexFunc_Envelope_L2 P T D N (fun h => f_slices_IndexFunc_Envelope_j1 P T D N K h) (fun w9_4 h => K w9_4 h) N (s.1 0) (s.1 1) (s.1 7) (s.1 8) s.2) := funext fun s => f_slices_IndexFunc_Envelope_L2_eq P T D N (o_slices_IndexFunc_Envelope_aL2 P T D N K) (fun h => f_slices_IndexFunc_Envelope_j1 P T D N K h) (fun w9_4 h => K w9_4 h) (fun s => rfl) (fun s => rfl) N s
  show o_slices_IndexFunc_Envelope_G P T D N (fun s => iterK (fun s k => o_slices_IndexFunc_Envelope_L2 P T D N s.1 s.2 k) N s (o_slices_IndexFunc_Envelope_aL2 P T D N K)) K a0 a1 h = _
  rw [eL2]
  kernel_rfl
theorem o_slices_IndexFunc_Envelope_run (T : Tab) (D : DTab) (N : Nat) {β : Type} (K : AV → Hp → Option β) (a0 : AV) (a1 : AV) (h : Hp) : runK Try.prog T D N [0, 1, 4, 5, 7, 8, 9, 16] Try.f57 K [a0, a1] h = o_slices_IndexFunc_Envelope Try.prog T D N K a0 a1 h := by kernel_rfl
theorem f_slices_IndexFunc_Envelope_run (T : Tab) (D : DTab) (N : Nat) {β : Type} (K : AV → Hp → Option β) (a0 : AV) (a1 : AV) (h : Hp) : runK Try.prog T D N [0, 1, 4, 5, 7, 8, 9, 16] Try.f57 K [a0, a1] h = f_slices_IndexFunc_Envelope Try.prog T D N K a0 a1 h := (o_slices_IndexFunc_Envelope_run T D N K a0 a1 h).trans (f_slices_IndexFunc_Envelope_old_eq Try.prog T D N K a0 a1 h)
noncomputable def f_slices_Grow_int_j2 (P : Program) (T : Tab) (D : DTab) (N : Nat) {β : Type} (K : AV → Hp → Option β) (v0 : AV) (h : Hp) : Option β :=
K v0 h
noncomputable def f_slices_Grow_int_j1 (P : Program) (T : Tab) (D : DTab) (N : Nat) {β : Type} (K : AV → Hp → Option β) (v0 : AV) (v1 : AV) (h : Hp) : Option β :=
capK v0 fun x1 =>
lenK v0 fun x2 =>
arithK .sub x1 x2 fun x3 =>
arithK .sub v1 x3 fun x4 =>
arithK .gtr x4 (.s (.int .i64 0)) fun x5 =>
condK x5 (
capK v0 fun x6 =>
sliceK 1 v0 none (some x6) none fun x7 =>
effK (mkE 1 8 [.s (.int .i64 0)] x7 x4 (List.length h)) h fun x8 h9 =>
lenK v0 fun x10 =>
sliceK 1 x8 none (some x10) none fun x11 =>
f_slices_Grow_int_j2 P T D N K x11 h9) (
f_slices_Grow_int_j2 P T D N K v0 h)
noncomputable def f_slices_Grow_int (P : Program) (T : Tab) (D : DTab) (N : Nat) {β : Type} (K : AV → Hp → Option β) (a0 : AV) (a1 : AV) (h : Hp) : Option β :=
arithK .lss a1 (.s (.int .i64 0)) fun x12 =>
condK x12 (
none) (
f_slices_Grow_int_j1 P T D N K a0 a1 h)
theorem f_slices_Grow_int_run (T : Tab) (D : DTab) (N : Nat) {β : Type} (K : AV → Hp → Option β) (a0 : AV) (a1 : AV) (h : Hp) : runK Try.prog T D N [0, 1, 4, 6, 16] Try.f59 K [a0, a1] h = f_slices_Grow_int Try.prog T D N K a0 a1 h := by kernel_rfl
noncomputable def o_slices_Index_Message_j1 (P : Program) (T : Tab) (D : DTab) (N : Nat) {β : Type} (K : AV → Hp → Option β) (t : Tm) (h : Hp) : Option β :=
K (.s (.int .i64 (-1))) h
noncomputable def o_slices_Index_Message_L2 (P : Program) (T : Tab) (D : DTab) (N : Nat) {β : Type} (t : Tm) (h : Hp) (k : Ex → St → Option β) : Option β :=
arithK .lss (t 8) (t 7) fun x4 =>
condK x4 (
ldK 7 true (t 3) h fun x5 =>
iaK 7 (t 0) (t 8) fun x6 =>
ldK 7 true x6 h fun x7 =>
eqK P false 31 x5 x7 h fun x8 =>
condK x8 (
k .ret ((upd (upd (upd (upd t 9 x4) 5 (t 8)) 16 x8) 4 (t 8)), h)) (
arithK .add (t 8) (.s (.int .i64 1)) fun x9 =>
k .normal ((upd (upd (upd (upd t 9 x4) 5 (t 8)) 16 x8) 8 x9), h))) (
k (.exit 0) ((upd t 9 x4), h))
noncomputable def o_slices_Index_Message_aL2 (P : Program) (T : Tab) (D : DTab) (N : Nat) {β : Type} (K : AV → Hp → Option β) (e : Ex) (s : St) : Option β :=
  e.on ((o_slices_Index_Message_j1 P T D N K s.1 s.2))
  (fun i => bif i == 0 then ((o_slices_Index_Message_j1 P T D N K s.1 s.2)) else (none))
  (K (s.1 4) s.2)
noncomputable def o_slices_Index_Message_G (P : Program) (T : Tab) (D : DTab) (N : Nat) {β : Type} (cL2 : St → Option β) (K : AV → Hp → Option β) (a0 : AV) (a1 : AV) (h : Hp) :  Option β :=
effK (boxE 7 a1 (List.length h)) h fun x1 h2 =>
lenK a0 fun x3 =>
cL2 ((upd (upd (upd (upd (tm0 [a0, a1]) 3 x1) 4 (.s (.int .i64 0))) 7 x3) 8 (.s (.int .i64 0))), h2)
noncomputable def o_slices_Index_Message (P : Program) (T : Tab) (D : DTab) (N : Nat) {β : Type} (K : AV → Hp → Option β) (a0 : AV) (a1 : AV) (h : Hp) : Option β := o_slices_Index_Message_G P T D N (fun s => iterK (fun s k => o_slices_Index_Message_L2 P T D N s.1 s.2 k) N s (o_slices_Index_Message_aL2 P T D N K)) K a0 a1 h
noncomputable def f_slices_Index_Message_j1 (P : Program) (T : Tab) (D : DTab) (N : Nat) {β : Type} (K : AV → Hp → Option β) (h : Hp) : Option β :=
K (.s (.int .i64 (-1))) h
noncomputable def f_slices_Index_Message_b2 (P : Program) (T : Tab) (D : DTab) (N : Nat) {β : Type} (xn : AV → AV → AV → AV → Hp → Option β) (x0 : Hp → Option β) (xr : AV → Hp → Option β) (v0 : AV) (v3 : AV) (v7 : AV) (v8 : AV) (h : Hp) : Option β :=
arithK .lss v8 v7 fun x4 =>
condK x4 (
ldK 7 true v3 h fun x5 =>
iaK 7 v0 v8 fun x6 =>
ldK 7 true x6 h fun x7 =>
eqK P false 31 x5 x7 h fun x8 =>
condK x8 (
xr v8 h) (
arithK .add v8 (.s (.int .i64 1)) fun x9 =>
xn v0 v3 v7 x9 h)) (
x0 h)
noncomputable def f_slices_Index_Message_L2 (P : Program) (T : Tab) (D : DTab) (N : Nat) {β : Type} (x0 : Hp → Option β) (xr : AV → Hp → Option β) : Nat → AV → AV → AV → AV → Hp → Option β
  | 0 => fun _ _ _ _ _ => none
  | n + 1 => fun v0 v3 v7 v8 h => f_slices_Index_Message_b2 P T D N (f_slices_Index_Message_L2 P T D N x0 xr n) x0 xr v0 v3 v7 v8 h
noncomputable def f_slices_Index_Message (P : Program) (T : Tab) (D : DTab) (N : Nat) {β : Type} (K : AV → Hp → Option β) (a0 : AV) (a1 : AV) (h : Hp) : Option β :=
effK (boxE 7 a1 (List.length h)) h fun x1 h2 =>
lenK a0 fun x3 =>
f_slices_Index_Message_L2 P T D N (fun h => f_slices_Index_Message_j1 P T D N K h) (fun w11_4 h => K w11_4 h) N a0 x1 x3 (.s (.int .i64 0)) h2
theorem f_slices_Index_Message_b2_eq (P : Program) (T : Tab) (D : DTab) (N : Nat) {β : Type} (xn : AV → AV → AV → AV → Hp → Option β) (x0 : Hp → Option β) (xr : AV → Hp → Option β) (xd : Nat → St → Option β) (xq : St → Option β) (t : Tm) (h : Hp) : o_slices_Index_Message_L2 P T D N t h (fun (e : Ex) (s : St) => e.on (xn (s.1 0) (s.1 3) (s.1 7) (s.1 8) s.2) (fun i => (bif i == 0 then x0 s.2 else (xd i s))) (xr (s.1 4) s.2)) = f_slices_Index_Message_b2 P T D N xn x0 xr (t 0) (t 3) (t 7) (t 8) h := by kernel_rfl
theorem f_slices_Index_Message_L2_eq (P : Program) (T : Tab) (D : DTab) (N : Nat) {β : Type} (A : Ex → St → Option β) (x0 : Hp → Option β) (xr : AV → Hp → Option β) (q0 : ∀ s, A (.exit 0) s = x0 s.2) (qr : ∀ s, A .ret s = xr (s.1 4) s.2) : ∀ (n : Nat) (s : St), iterK (fun s k => o_slices_Index_Message_L2 P T D N s.1 s.2 k) n s A = f_slices_Index_Message_L2 P T D N x0 xr n (s.1 0) (s.1 3) (s.1 7) (s.1 8) s.2 := by
  intro n
  induction n with
  | zero => intro s; rfl
  | succ n ih =>
    intro s
    have hk : (fun (e : Ex) (s' : St) => Ex.on e (iterK (fun s k => o_slices_Index_Message_L2 P T D N s.1 s.2 k) n s' A) (fun i => A (.exit i) s') (A .ret s')) = (fun (e : Ex) (s : St) => e.on ((f_slices_Index_Message_L2 P T D N x0 xr n) (s.1 0) (s.1 3) (s.1 7) (s.1 8) s.2) (fun i => (bif i == 0 then x0 s.2 else (A (.exit i) s))) (xr (s.1 4) s.2)) := by
      funext e s'
      cases e with
      | normal => exact ih s'
      | ret => exact qr s'
      | exit i =>
        by_cases r0 : i = 0
        · subst r0; exact q0 s'
        simp only [Ex.on, beq_false_of_ne r0, cond_false]
    show o_slices_Index_Message_L2 P T D N s.1 s.2 (fun (e : Ex) (s' : St) => Ex.on e (iterK (fun s k => o_slices_Index_Message_L2 P T D N s.1 s.2 k) n s' A) (fun i => A (.exit i) s') (A .ret s')) = _
    rw [hk]
    exact f_slices_Index_Message_b2_eq P T D N (f_slices_Index_Message_L2 P T D N x0 xr n) x0 xr (fun i s => A (.exit i) s) (fun s => A .ret s) s.1 s.2
theorem f_slices_Index_Message_old_eq (P : Program) (T : Tab) (D : DTab) (N : Nat) {β : Type} (K : AV → Hp → Option β) (a0 : AV) (a1 : AV) (h : Hp) : o_slices_Index_Message P T D N K a0 a1 h = f_slices_Index_Message P T D N K a0 a1 h := by
  have eL2 : (fun s : St => iterK (fun s k => o_slices_Index_Message_L2 P T D N s.1 s.2 k) N s (o_slices_Index_Message_aL2 P T D N K)) = (fun s : St => f_slices_Index_Message_L2 P T D N (fun h => f_slices_Index_Message_j1 P T D N K h) (fun w11_4 h => K w11_4 h) N (s.1 0) (s.1 3) (s.1 7) (s.1 8) s.2) := funext fun s => f_slices_Index_Message_L2_eq P T D N (o_slices_Index_Message_aL2 P T D N K) (fun h => f_slices_Index_Message_j1 P T D N K h) (fun w11_4 h => K w11_4 h) (fun s => rfl) (fun s => rfl) N s
  show o_slices_Index_Message_G P T D N (fun s => iterK (fun s k => o_slices_Index_Message_L2 P T D N s.1 s.2 k) N s (o_slices_Index_Message_aL2 P T D N K)) K a0 a1 h = _
  rw [eL2]
  kernel_rfl
theorem o_slices_Index_Message_run (T : Tab) (D : DTab) (N : Nat) {β : Type} (K : AV → Hp → Option β) (a0 : AV) (a1 : AV) (h : Hp) : runK Try.prog T D N [0, 1, 3, 4, 5, 7, 8, 9, 16] Try.f60 K [a0, a1] h = o_slices_Index_Message Try.prog T D N K a0 a1 h := by kernel_rfl
theorem f_slices_Index_Message_run (T : Tab) (D : DTab) (N : Nat) {β : Type} (K : AV → Hp → Option β) (a0 : AV) (a1 : AV) (h : Hp) : runK Try.prog T D N [0, 1, 3, 4, 5, 7, 8, 9, 16] Try.f60 K [a0, a1] h = f_slices_Index_Message Try.prog T D N K a0 a1 h := (o_slices_Index_Message_run T D N K a0 a1 h).trans (f_slices_Index_Message_old_eq Try.prog T D N K a0 a1 h)
noncomputable def f_document_Normal_1 (P : Program) (T : Tab) (D : DTab) (N : Nat) {β : Type} (K : AV → Hp → Option β) (a0 : AV) (h : Hp) : Option β :=
effK (boxE 7 a0 (List.length h)) h fun x1 h2 =>
ldK 7 true x1 h2 fun x3 =>
callK (T 47) [x3] h2 fun x4 h5 =>
eqK P true 26 x4 (.s (.int .i64 0)) h5 fun x6 =>
K x6 h5
theorem f_document_Normal_1_run (T : Tab) (D : DTab) (N : Nat) {β : Type} (K : AV → Hp → Option β) (a0 : AV) (h : Hp) : runK Try.prog T D N [0, 1, 2] Try.f61 K [a0] h = f_document_Normal_1 Try.prog T D N K a0 h := by kernel_rfl
noncomputable def f_document_compare (P : Program) (T : Tab) (D : DTab) (N : Nat) {β : Type} (K : AV → Hp → Option β) (a0 : AV) (a1 : AV) (h : Hp) : Option β :=
effK (boxE 7 a0 (List.length h)) h fun x1 h2 =>
effK (boxE 7 a1 (List.length h2)) h2 fun x3 h4 =>
faK 0 x1 fun x5 =>
ldK 1 false x5 h4 fun x6 =>
faK 0 x3 fun x7 =>
ldK 1 false x7 h4 fun x8 =>
effD (callE (D 77) [x6, x8] h4 (List.length h4)) h4 fun x9 h10 e11 =>
faK 1 x1 fun x12 =>
ldK 1 false x12 h10 fun x13 =>
faK 1 x3 fun x14 =>
ldK 1 false x14 h10 fun x15 =>
effD (callE (D 77) [x13, x15] h10 (List.length h10)) h10 fun x16 h17 e18 =>
faK 2 x1 fun x19 =>
ldK 1 false x19 h17 fun x20 =>
faK 2 x3 fun x21 =>
ldK 1 false x21 h17 fun x22 =>
effD (callE (D 77) [x20, x22] h17 (List.length h17)) h17 fun x23 h24 e25 =>
faK 3 x1 fun x26 =>
ldK 1 false x26 h24 fun x27 =>
faK 3 x3 fun x28 =>
ldK 1 false x28 h24 fun x29 =>
effD (callE (D 77) [x27, x29] h24 (List.length h24)) h24 fun x30 h31 e32 =>
faK 4 x1 fun x33 =>
ldK 1 false x33 h31 fun x34 =>
faK 4 x3 fun x35 =>
ldK 1 false x35 h31 fun x36 =>
effD (callE (D 77) [x34, x36] h31 (List.length h31)) h31 fun x37 h38 e39 =>
faK 5 x1 fun x40 =>
ldK 1 false x40 h38 fun x41 =>
faK 5 x3 fun x42 =>
ldK 1 false x42 h38 fun x43 =>
effD (callE (D 77) [x41, x43] h38 (List.length h38)) h38 fun x44 h45 e46 =>
faK 6 x1 fun x47 =>
ldK 1 false x47 h45 fun x48 =>
faK 6 x3 fun x49 =>
ldK 1 false x49 h45 fun x50 =>
effD (callE (D 77) [x48, x50] h45 (List.length h45)) h45 fun x51 h52 e53 =>
effD (bsE 1 [.s (.int .i64 0)] 7 [(0, x9), (1, x16), (2, x23), (3, x30), (4, x37), (5, x44), (6, x51)] (List.length h52)) h52 fun x54 h55 e56 =>
effD (callE (D 76) [x54] h55 (List.length h55)) h55 fun x57 h58 e59 =>
bif disjAll [(4, 6), (4, 8), (4, 11), (9, 11), (4, 13), (9, 13), (4, 16), (9, 16), (14, 16), (4, 18), (9, 18), (14, 18), (4, 21), (9, 21), (14, 21), (19, 21), (4, 23), (9, 23), (14, 23), (19, 23), (4, 26), (9, 26), (14, 26), (19, 26), (24, 26), (4, 28), (9, 28), (14, 28), (19, 28), (24, 28), (4, 31), (9, 31), (14, 31), (19, 31), (24, 31), (29, 31), (4, 33), (9, 33), (14, 33), (19, 33), (24, 33), (29, 33)] [([], []), ((idsOf x5), []), ([], []), ((idsOf x7), []), e11, ([], []), ((idsOf x12), []), ([], []), ((idsOf x14), []), e18, ([], []), ((idsOf x19), []), ([], []), ((idsOf x21), []), e25, ([], []), ((idsOf x26), []), ([], []), ((idsOf x28), []), e32, ([], []), ((idsOf x33), []), ([], []), ((idsOf x35), []), e39, ([], []), ((idsOf x40), []), ([], []), ((idsOf x42), []), e46, ([], []), ((idsOf x47), []), ([], []), ((idsOf x49), []), e53, e56, e59, ([], [])] then (
K x57 h58) else none
theorem f_document_compare_run (T : Tab) (D : DTab) (N : Nat) {β : Type} (K : AV → Hp → Option β) (a0 : AV) (a1 : AV) (h : Hp) : runK Try.prog T D N [0, 1, 2, 3, 4] Try.f63 K [a0, a1] h = f_document_compare Try.prog T D N K a0 a1 h := by kernel_rfl
noncomputable def o_slices_Compact_Message_j1 (P : Program) (T : Tab) (D : DTab) (N : Nat) {β : Type} (K : AV → Hp → Option β) (t : Tm) (h : Hp) : Option β :=
K (t 0) h
noncomputable def o_slices_Compact_Message_j3 (P : Program) (T : Tab) (D : DTab) (N : Nat) {β : Type} (k : Ex → St → Option β) (t : Tm) (h : Hp) : Option β :=
arithK .add (t 3) (.s (.int .i64 1)) fun x5 =>
k .normal ((upd t 3 x5), h)
noncomputable def o_slices_Compact_Message_j4 (P : Program) (T : Tab) (D : DTab) (N : Nat) {β : Type} (k : Ex → St → Option β) (t : Tm) (h : Hp) : Option β :=
sliceK 7 (t 0) (some (t 3)) none none fun x13 =>
effK (clrE 7 [.s (.int .i64 0), .s (.int .i64 0), .s (.int .i64 0), .s (.int .i64 0), .s (.int .i64 0), .s (.int .i64 0), .s (.int .i64 0)] x13 h) h fun x14 h15 =>
sliceK 7 (t 0) none (some (t 3)) none fun x16 =>
k .ret ((upd t 2 x16), h15)
noncomputable def o_slices_Compact_Message_j6 (P : Program) (T : Tab) (D : DTab) (N : Nat) {β : Type} (k : Ex → St → Option β) (t : Tm) (h : Hp) : Option β :=
arithK .add (t 5) (.s (.int .i64 1)) fun x19 =>
k .normal ((upd t 5 x19), h)
noncomputable def o_slices_Compact_Message_j7 (P : Program) (T : Tab) (D : DTab) (N : Nat) {β : Type} (k : Ex → St → Option β) (t : Tm) (h : Hp) : Option β :=
(o_slices_Compact_Message_j6 P T D N k t h)
noncomputable def o_slices_Compact_Message_L5 (P : Program) (T : Tab) (D : DTab) (N : Nat) {β : Type} (t : Tm) (h : Hp) (k : Ex → St → Option β) : Option β :=
lenK (t 4) fun x17 =>
arithK .lss (t 5) x17 fun x18 =>
condK x18 (
iaK 7 (t 4) (t 5) fun x20 =>
ldK 7 true x20 h fun x21 =>
arithK .sub (t 5) (.s (.int .i64 1)) fun x22 =>
iaK 7 (t 4) x22 fun x23 =>
ldK 7 true x23 h fun x24 =>
eqK P true 31 x21 x24 h fun x25 =>
condK x25 (
iaK 7 (t 4) (t 5) fun x26 =>
ldK 7 true x26 h fun x27 =>
iaK 7 (t 0) (t 3) fun x28 =>
effK (stE 7 x28 x27 h) h fun x29 h30 =>
arithK .add (t 3) (.s (.int .i64 1)) fun x31 =>
(o_slices_Compact_Message_j7 P T D N k (upd (upd (upd t 32 x18) 44 x25) 3 x31) h30)) (
(o_slices_Compact_Message_j7 P T D N k (upd (upd t 32 x18) 44 x25) h))) (
k (.exit 2) ((upd t 32 x18), h))
noncomputable def o_slices_Compact_Message_aL5 (P : Program) (T : Tab) (D : DTab) (N : Nat) {β : Type} (k : Ex → St → Option β) (e : Ex) (s : St) : Option β :=
  e.on ((o_slices_Compact_Message_j4 P T D N k s.1 s.2))
  (fun i => bif i == 2 then ((o_slices_Compact_Message_j4 P T D N k s.1 s.2)) else (bif i == 1 then ((o_slices_Compact_Message_j3 P T D N k s.1 s.2)) else (k (.exit i) (s.1, s.2))))
  (k .ret (s.1, s.2))
noncomputable def o_slices_Compact_Message_L2_G (P : Program) (T : Tab) (D : DTab) (N : Nat) {β : Type} (cL5 : St → Option β) (cj3 : St → Option β) (t : Tm) (h : Hp) (k : Ex → St → Option β) :  Option β :=
lenK (t 0) fun x3 =>
arithK .lss (t 3) x3 fun x4 =>
condK x4 (
iaK 7 (t 0) (t 3) fun x6 =>
ldK 7 true x6 h fun x7 =>
arithK .sub (t 3) (.s (.int .i64 1)) fun x8 =>
iaK 7 (t 0) x8 fun x9 =>
ldK 7 true x9 h fun x10 =>
eqK P false 31 x7 x10 h fun x11 =>
condK x11 (
sliceK 7 (t 0) (some (t 3)) none none fun x12 =>
cL5 ((upd (upd (upd (upd t 13 x4) 25 x11) 4 x12) 5 (.s (.int .i64 1))), h)) (
cj3 ((upd (upd t 13 x4) 25 x11), h))) (
k (.exit 0) ((upd t 13 x4), h))
noncomputable def o_slices_Compact_Message_L2 (P : Program) (T : Tab) (D : DTab) (N : Nat) {β : Type} (t : Tm) (h : Hp) (k : Ex → St → Option β) : Option β := o_slices_Compact_Message_L2_G P T D N (fun s => iterK (fun s k => o_slices_Compact_Message_L5 P T D N s.1 s.2 k) N s (o_slices_Compact_Message_aL5 P T D N k)) (fun s => (o_slices_Compact_Message_j3 P T D N k s.1 s.2)) t h k
noncomputable def o_slices_Compact_Message_aL2 (P : Program) (T : Tab) (D : DTab) (N : Nat) {β : Type} (K : AV → Hp → Option β) (e : Ex) (s : St) : Option β :=
  e.on ((o_slices_Compact_Message_j1 P T D N K s.1 s.2))
  (fun i => bif i == 0 then ((o_slices_Compact_Message_j1 P T D N K s.1 s.2)) else (none))
  (K (s.1 2) s.2)
noncomputable def o_slices_Compact_Message_G (P : Program) (T : Tab) (D : DTab) (N : Nat) {β : Type} (cL2 : St → Option β) (K : AV → Hp → Option β) (a0 : AV) (h : Hp) :  Option β :=
lenK a0 fun x1 =>
arithK .lss x1 (.s (.int .i64 2)) fun x2 =>
condK x2 (
K a0 h) (
cL2 ((upd (upd (upd (tm0 [a0]) 2 (.s (.slice none 0 0))) 8 x2) 3 (.s (.int .i64 1))), h))
noncomputable def o_slices_Compact_Message (P : Program) (T : Tab) (D : DTab) (N : Nat) {β : Type} (K : AV → Hp → Option β) (a0 : AV) (h : Hp) : Option β := o_slices_Compact_Message_G P T D N (fun s => iterK (fun s k => o_slices_Compact_Message_L2 P T D N s.1 s.2 k) N s (o_slices_Compact_Message_aL2 P T D N K)) K a0 h
noncomputable def f_slices_Compact_Message_j1 (P : Program) (T : Tab) (D : DTab) (N : Nat) {β : Type} (K : AV → Hp → Option β) (v0 : AV) (h : Hp) : Option β :=
K v0 h
noncomputable def f_slices_Compact_Message_j3 (P : Program) (T : Tab) (D : DTab) (N : Nat) {β : Type} (xn : AV → AV → Hp → Option β) (x0 : AV → Hp → Option β) (xr : AV → Hp → Option β) (v0 : AV) (v3 : AV) (h : Hp) : Option β :=
arithK .add v3 (.s (.int .i64 1)) fun x5 =>
xn v0 x5 h
noncomputable def f_slices_Compact_Message_j4 (P : Program) (T : Tab) (D : DTab) (N : Nat) {β : Type} (xn : AV → AV → Hp → Option β) (x0 : AV → Hp → Option β) (xr : AV → Hp → Option β) (v0 : AV) (v3 : AV) (h : Hp) : Option β :=
sliceK 7 v0 (some v3) none none fun x13 =>
effK (clrE 7 [.s (.int .i64 0), .s (.int .i64 0), .s (.int .i64 0), .s (.int .i64 0), .s (.int .i64 0), .s (.int .i64 0), .s (.int .i64 0)] x13 h) h fun x14 h15 =>
sliceK 7 v0 none (some v3) none fun x16 =>
xr x16 h15
noncomputable def f_slices_Compact_Message_j6 (P : Program) (T : Tab) (D : DTab) (N : Nat) {β : Type} (xn : AV → AV → AV → AV → Hp → Option β) (x2 : AV → AV → Hp → Option β) (v0 : AV) (v3 : AV) (v4 : AV) (v5 : AV) (h : Hp) : Option β :=
arithK .add v5 (.s (.int .i64 1)) fun x19 =>
xn v0 v3 v4 x19 h
noncomputable def f_slices_Compact_Message_j7 (P : Program) (T : Tab) (D : DTab) (N : Nat) {β : Type} (xn : AV → AV → AV → AV → Hp → Option β) (x2 : AV → AV → Hp → Option β) (v0 : AV) (v3 : AV) (v4 : AV) (v5 : AV) (h : Hp) : Option β :=
f_slices_Compact_Message_j6 P T D N xn x2 v0 v3 v4 v5 h
noncomputable def f_slices_Compact_Message_b5 (P : Program) (T : Tab) (D : DTab) (N : Nat) {β : Type} (xn : AV → AV → AV → AV → Hp → Option β) (x2 : AV → AV → Hp → Option β) (v0 : AV) (v3 : AV) (v4 : AV) (v5 : AV) (h : Hp) : Option β :=
lenK v4 fun x17 =>
arithK .lss v5 x17 fun x18 =>
condK x18 (
iaK 7 v4 v5 fun x20 =>
ldK 7 true x20 h fun x21 =>
arithK .sub v5 (.s (.int .i64 1)) fun x22 =>
iaK 7 v4 x22 fun x23 =>
ldK 7 true x23 h fun x24 =>
eqK P true 31 x21 x24 h fun x25 =>
condK x25 (
iaK 7 v4 v5 fun x26 =>
ldK 7 true x26 h fun x27 =>
iaK 7 v0 v3 fun x28 =>
effK (stE 7 x28 x27 h) h fun x29 h30 =>
arithK .add v3 (.s (.int .i64 1)) fun x31 =>
f_slices_Compact_Message_j7 P T D N xn x2 v0 x31 v4 v5 h30) (
f_slices_Compact_Message_j7 P T D N xn x2 v0 v3 v4 v5 h)) (
x2 v0 v3 h)
noncomputable def f_slices_Compact_Message_L5 (P : Program) (T : Tab) (D : DTab) (N : Nat) {β : Type} (x2 : AV → AV → Hp → Option β) : Nat → AV → AV → AV → AV → Hp → Option β
  | 0 => fun _ _ _ _ _ => none
  | n + 1 => fun v0 v3 v4 v5 h => f_slices_Compact_Message_b5 P T D N (f_slices_Compact_Message_L5 P T D N x2 n) x2 v0 v3 v4 v5 h
noncomputable def f_slices_Compact_Message_b2 (P : Program) (T : Tab) (D : DTab) (N : Nat) {β : Type} (xn : AV → AV → Hp → Option β) (x0 : AV → Hp → Option β) (xr : AV → Hp → Option β) (v0 : AV) (v3 : AV) (h : Hp) : Option β :=
lenK v0 fun x3 =>
arithK .lss v3 x3 fun x4 =>
condK x4 (
iaK 7 v0 v3 fun x6 =>
ldK 7 true x6 h fun x7 =>
arithK .sub v3 (.s (.int .i64 1)) fun x8 =>
iaK 7 v0 x8 fun x9 =>
ldK 7 true x9 h fun x10 =>
eqK P false 31 x7 x10 h fun x11 =>
condK x11 (
sliceK 7 v0 (some v3) none none fun x12 =>
f_slices_Compact_Message_L5 P T D N (fun w32_0 w32_3 h => f_slices_Compact_Message_j4 P T D N xn x0 xr w32_0 w32_3 h) N v0 v3 x12 (.s (.int .i64 1)) h) (
f_slices_Compact_Message_j3 P T D N xn x0 xr v0 v3 h)) (
x0 v0 h)
noncomputable def f_slices_Compact_Message_L2 (P : Program) (T : Tab) (D : DTab) (N : Nat) {β : Type} (x0 : AV → Hp → Option β) (xr : AV → Hp → Option β) : Nat → AV → AV → Hp → Option β
  | 0 => fun _ _ _ => none
  | n + 1 => fun v0 v3 h => f_slices_Compact_Message_b2 P T D N (f_slices_Compact_Message_L2 P T D N x0 xr n) x0 xr v0 v3 h
noncomputable def f_slices_Compact_Message (P : Program) (T : Tab) (D : DTab) (N : Nat) {β : Type} (K : AV → Hp → Option β) (a0 : AV) (h : Hp) : Option β :=
lenK a0 fun x1 =>
arithK .lss x1 (.s (.int .i64 2)) fun x2 =>
condK x2 (
K a0 h) (
f_slices_Compact_Message_L2 P T D N (fun w33_0 h => f_slices_Compact_Message_j1 P T D N K w33_0 h) (fun w34_2 h => K w34_2 h) N a0 (.s (.int .i64 1)) h)
theorem f_slices_Compact_Message_j3_eq (P : Program) (T : Tab) (D : DTab) (N : Nat) {β : Type} (xn : AV → AV → Hp → Option β) (x0 : AV → Hp → Option β) (xr : AV → Hp → Option β) (xd : Nat → St → Option β) (xq : St → Option β) (t : Tm) (h : Hp) : o_slices_Compact_Message_j3 P T D N (fun (e : Ex) (s : St) => e.on (xn (s.1 0) (s.1 3) s.2) (fun i => (bif i == 0 then x0 (s.1 0) s.2 else (xd i s))) (xr (s.1 2) s.2)) t h = f_slices_Compact_Message_j3 P T D N xn x0 xr (t 0) (t 3) h := by kernel_rfl
theorem f_slices_Compact_Message_b5_eq (P : Program) (T : Tab) (D : DTab) (N : Nat) {β : Type} (xn : AV → AV → AV → AV → Hp → Option β) (x2 : AV → AV → Hp → Option β) (xd : Nat → St → Option β) (xq : St → Option β) (t : Tm) (h : Hp) : o_slices_Compact_Message_L5 P T D N t h (fun (e : Ex) (s : St) => e.on (xn (s.1 0) (s.1 3) (s.1 4) (s.1 5) s.2) (fun i => (bif i == 2 then x2 (s.1 0) (s.1 3) s.2 else (xd i s))) (xq s)) = f_slices_Compact_Message_b5 P T D N xn x2 (t 0) (t 3) (t 4) (t 5) h := by kernel_rfl
theorem f_slices_Compact_Message_L5_eq (P : Program) (T : Tab) (D : DTab) (N : Nat) {β : Type} (A : Ex → St → Option β) (x2 : AV → AV → Hp → Option β) (q2 : ∀ s, A (.exit 2) s = x2 (s.1 0) (s.1 3) s.2) : ∀ (n : Nat) (s : St), iterK (fun s k => o_slices_Compact_Message_L5 P T D N s.1 s.2 k) n s A = f_slices_Compact_Message_L5 P T D N x2 n (s.1 0) (s.1 3) (s.1 4) (s.1 5) s.2 := by
  intro n
  induction n with
  | zero => intro s; rfl
  | succ n ih =>
    intro s
    have hk : (fun (e : Ex) (s' : St) => Ex.on e (iterK (fun s k => o_slices_Compact_Message_L5 P T D N s.1 s.2 k) n s' A) (fun i => A (.exit i) s') (A .ret s')) = (fun (e : Ex) (s : St) => e.on ((f_slices_Compact_Message_L5 P T D N x2 n) (s.1 0) (s.1 3) (s.1 4) (s.1 5) s.2) (fun i => (bif i == 2 then x2 (s.1 0) (s.1 3) s.2 else (A (.exit i) s))) (A .ret s)) := by
      funext e s'
      cases e with
      | normal => exact ih s'
      | ret => exact rfl
      | exit i =>
        by_cases r2 : i = 2
        · subst r2; exact q2 s'
        simp only [Ex.on, beq_false_of_ne r2, cond_false]
    show o_slices_Compact_Message_L5 P T D N s.1 s.2 (fun (e : Ex) (s' : St) => Ex.on e (iterK (fun s k => o_slices_Compact_Message_L5 P T D N s.1 s.2 k) n s' A) (fun i => A (.exit i) s') (A .ret s')) = _
    rw [hk]
    exact f_slices_Compact_Message_b5_eq P T D N (f_slices_Compact_Message_L5 P T D N x2 n) x2 (fun i s => A (.exit i) s) (fun s => A .ret s) s.1 s.2
theorem f_slices_Compact_Message_b2_eq (P : Program) (T : Tab) (D : DTab) (N : Nat) {β : Type} (xn : AV → AV → Hp → Option β) (x0 : AV → Hp → Option β) (xr : AV → Hp → Option β) (xd : Nat → St → Option β) (xq : St → Option β) (t : Tm) (h : Hp) : o_slices_Compact_Message_L2 P T D N t h (fun (e : Ex) (s : St) => e.on (xn (s.1 0) (s.1 3) s.2) (fun i => (bif i == 0 then x0 (s.1 0) s.2 else (xd i s))) (xr (s.1 2) s.2)) = f_slices_Compact_Message_b2 P T D N xn x0 xr (t 0) (t 3) h := by
  have eL5 : (fun s : St => iterK (fun s k => o_slices_Compact_Message_L5 P T D N s.1 s.2 k) N s (o_slices_Compact_Message_aL5 P T D N (fun (e : Ex) (s : St) => e.on (xn (s.1 0) (s.1 3) s.2) (fun i => (bif i == 0 then x0 (s.1 0) s.2 else (xd i s))) (xr (s.1 2) s.2)))) = (fun s : St => f_slices_Compact_Message_L5 P T D N (fun w32_0 w32_3 h => f_slices_Compact_Message_j4 P T D N xn x0 xr w32_0 w32_3 h) N (s.1 0) (s.1 3) (s.1 4) (s.1 5) s.2) := funext fun s => f_slices_Compact_Message_L5_eq P T D N (o_slices_Compact_Message_aL5 P T D N (fun (e : Ex) (s : St) => e.on (xn (s.1 0) (s.1 3) s.2) (fun i => (bif i == 0 then x0 (s.1 0) s.2 else (xd i s))) (xr (s.1 2) s.2))) (fun w32_0 w32_3 h => f_slices_Compact_Message_j4 P T D N xn x0 xr w32_0 w32_3 h) (fun s => rfl) N s
  have ej3 : (fun s : St => o_slices_Compact_Message_j3 P T D N (fun (e : Ex) (s : St) => e.on (xn (s.1 0) (s.1 3) s.2) (fun i => (bif i == 0 then x0 (s.1 0) s.2 else (xd i s))) (xr (s.1 2) s.2)) s.1 s.2) = (fun s : St => f_slices_Compact_Message_j3 P T D N xn x0 xr (s.1 0) (s.1 3) s.2) := funext fun s => f_slices_Compact_Message_j3_eq P T D N xn x0 xr xd xq s.1 s.2
  show o_slices_Compact_Message_L2_G P T D N (fun s => iterK (fun s k => o_slices_Compact_Message_L5 P T D N s.1 s.2 k) N s (o_slices_Compact_Message_aL5 P T D N (fun (e : Ex) (s : St) => e.on (xn (s.1 0) (s.1 3) s.2) (fun i => (bif i == 0 then x0 (s.1 0) s.2 else (xd i s))) (xr (s.1 2) s.2)))) (fun s => o_slices_Compact_Message_j3 P T D N (fun (e : Ex) (s : St) => e.on (xn (s.1 0) (s.1 3) s.2) (fun i => (bif i == 0 then x0 (s.1 0) s.2 else (xd i s))) (xr (s.1 2) s.2)) s.1 s.2) t h (fun (e : Ex) (s : St) => e.on (xn (s.1 0) (s.1 3) s.2) (fun i => (bif i == 0 then x0 (s.1 0) s.2 else (xd i s))) (xr (s.1 2) s.2)) = _
  rw [eL5, ej3]
  kernel_rfl
theorem f_slices_Compact_Message_L2_eq (P : Program) (T : Tab) (D : DTab) (N : Nat) {β : Type} (A : Ex → St → Option β) (x0 : AV → Hp → Option β) (xr : AV → Hp → Option β) (q0 : ∀ s, A (.exit 0) s = x0 (s.1 0) s.2) (qr : ∀ s, A .ret s = xr (s.1 2) s.2) : ∀ (n : Nat) (s : St), iterK (fun s k => o_slices_Compact_Message_L2 P T D N s.1 s.2 k) n s A = f_slices_Compact_Message_L2 P T D N x0 xr n (s.1 0) (s.1 3) s.2 := by
  intro n
  induction n with
  | zero => intro s; rfl
  | succ n ih =>
    intro s
    have hk : (fun (e : Ex) (s' : St) => Ex.on e (iterK (fun s k => o_slices_Compact_Message_L2 P T D N s.1 s.2 k) n s' A) (fun i => A (.exit i) s') (A .ret s')) = (fun (e : Ex) (s : St) => e.on ((f_slices_Compact_Message_L2 P T D N x0 xr n) (s.1 0) (s.1 3) s.2) (fun i => (bif i == 0 then x0 (s.1 0) s.2 else (A (.exit i) s))) (xr (s.1 2) s.2)) := by
      funext e s'
      cases e with
      | normal => exact ih s'
      | ret => exact qr s'
      | exit i =>
        by_cases r0 : i = 0
        · subst r0; exact q0 s'
        simp only [Ex.on, beq_false_of_ne r0, cond_false]
    show o_slices_Compact_Message_L2 P T D N s.1 s.2 (fun (e : Ex) (s' : St) => Ex.on e (iterK (fun s k => o_slices_Compact_Message_L2 P T D N s.1 s.2 k) n s' A) (fun i => A (.exit i) s') (A .ret s')) = _
    rw [hk]
    exact f_slices_Compact_Message_b2_eq P T D N (f_slices_Compact_Message_L2 P T D N x0 xr n) x0 xr (fun i s => A (.exit i) s) (fun s => A .ret s) s.1 s.2
theorem f_slices_Compact_Message_old_eq (P : Program) (T : Tab) (D : DTab) (N : Nat) {β : Type} (K : AV → Hp → Option β) (a0 : AV) (h : Hp) : o_slices_Compact_Message P T D N K a0 h = f_slices_Compact_Message P T D N K a0 h := by
  have eL2 : (fun s : St => iterK (fun s k => o_slices_Compact_Message_L2 P T D N s.1 s.2 k) N s (o_slices_Compact_Message_aL2 P T D N K)) = (fun s : St => f_slices_Compact_Message_L2 P T D N (fun w33_0 h => f_slices_Compact_Message_j1 P T D N K w33_0 h) (fun w34_2 h => K w34_2 h) N (s.1 0) (s.1 3) s.2) := funext fun s => f_slices_Compact_Message_L2_eq P T D N (o_slices_Compact_Message_aL2 P T D N K) (fun w33_0 h => f_slices_Compact_Message_j1 P T D N K w33_0 h) (fun w34_2 h => K w34_2 h) (fun s => rfl) (fun s => rfl) N s
  show o_slices_Compact_Message_G P T D N (fun s => iterK (fun s k => o_slices_Compact_Message_L2 P T D N s.1 s.2 k) N s (o_slices_Compact_Message_aL2 P T D N K)) K a0 h = _
  rw [eL2]
  kernel_rfl
theorem o_slices_Compact_Message_run (T : Tab) (D : DTab) (N : Nat) {β : Type} (K : AV → Hp → Option β) (a0 : AV) (h : Hp) : runK Try.prog T D N [0, 2, 3, 4, 5, 8, 13, 25, 32, 44] Try.f64 K [a0] h = o_slices_Compact_Message Try.prog T D N K a0 h := by kernel_rfl
theorem f_slices_Compact_Message_run (T : Tab) (D : DTab) (N : Nat) {β : Type} (K : AV → Hp → Option β) (a0 : AV) (h : Hp) : runK Try.prog T D N [0, 2, 3, 4, 5, 8, 13, 25, 32, 44] Try.f64 K [a0] h = f_slices_Compact_Message Try.prog T D N K a0 h := (o_slices_Compact_Message_run T D N K a0 h).trans (f_slices_Compact_Message_old_eq Try.prog T D N K a0 h)
noncomputable def o_slices_IndexFunc_Message_j1 (P : Program) (T : Tab) (D : DTab) (N : Nat) {β : Type} (K : AV → Hp → Option β) (t : Tm) (h : Hp) : Option β :=
K (.s (.int .i64 (-1))) h
noncomputable def o_slices_IndexFunc_Message_L2 (P : Program) (T : Tab) (D : DTab) (N : Nat) {β : Type} (t : Tm) (h : Hp) (k : Ex → St → Option β) : Option β :=
arithK .lss (t 8) (t 7) fun x2 =>
condK x2 (
iaK 7 (t 0) (t 8) fun x3 =>
ldK 7 true x3 h fun x4 =>
callVK T (t 1) [x4] h fun x5 h6 =>
condK x5 (
k .ret ((upd (upd (upd (upd t 9 x2) 5 (t 8)) 16 x5) 4 (t 8)), h6)) (
arithK .add (t 8) (.s (.int .i64 1)) fun x7 =>
k .normal ((upd (upd (upd (upd t 9 x2) 5 (t 8)) 16 x5) 8 x7), h6))) (
k (.exit 0) ((upd t 9 x2), h))
noncomputable def o_slices_IndexFunc_Message_aL2 (P : Program) (T : Tab) (D : DTab) (N : Nat) {β : Type} (K : AV → Hp → Option β) (e : Ex) (s : St) : Option β :=
  e.on ((o_slices_IndexFunc_Message_j1 P T D N K s.1 s.2))
  (fun i => bif i == 0 then ((o_slices_IndexFunc_Message_j1 P T D N K s.1 s.2)) else (none))
  (K (s.1 4) s.2)
noncomputable def o_slices_IndexFunc_Message_G (P : Program) (T : Tab) (D : DTab) (N : Nat) {β : Type} (cL2 : St → Option β) (K : AV → Hp → Option β) (a0 : AV) (a1 : AV) (h : Hp) :  Option β :=
lenK a0 fun x1 =>
cL2 ((upd (upd (upd (tm0 [a0, a1]) 4 (.s (.int .i64 0))) 7 x1) 8 (.s (.int .i64 0))), h)
noncomputable def o_slices_IndexFunc_Message (P : Program) (T : Tab) (D : DTab) (N : Nat) {β : Type} (K : AV → Hp → Option β) (a0 : AV) (a1 : AV) (h : Hp) : Option β := o_slices_IndexFunc_Message_G P T D N (fun s => iterK (fun s k => o_slices_IndexFunc_Message_L2 P T D N s.1 s.2 k) N s (o_slices_IndexFunc_Message_aL2 P T D N K)) K a0 a1 h
noncomputable def f_slices_IndexFunc_Message_j1 (P : Program) (T : Tab) (D : DTab) (N : Nat) {β : Type} (K : AV → Hp → Option β) (h : Hp) : Option β :=
K (.s (.int .i64 (-1))) h
noncomputable def f_slices_IndexFunc_Message_b2 (P : Program) (T : Tab) (D : DTab) (N : Nat) {β : Type} (xn : AV → AV → AV → AV → Hp → Option β) (x0 : Hp → Option β) (xr : AV → Hp → Option β) (v0 : AV) (v1 : AV) (v7 : AV) (v8 : AV) (h : Hp) : Option β :=
arithK .lss v8 v7 fun x2 =>
condK x2 (
iaK 7 v0 v8 fun x3 =>
ldK 7 true x3 h fun x4 =>
callVK T v1 [x4] h fun x5 h6 =>
condK x5 (
xr v8 h6) (
arithK .add v8 (.s (.int .i64 1)) fun x7 =>
xn v0 v1 v7 x7 h6)) (
x0 h)
noncomputable def f_slices_IndexFunc_Message_L2 (P : Program) (T : Tab) (D : DTab) (N : Nat) {β : Type} (x0 : Hp → Option β) (xr : AV → Hp → Option β) : Nat → AV → AV → AV → AV → Hp → Option β
  | 0 => fun _ _ _ _ _ => none
  | n + 1 => fun v0 v1 v7 v8 h => f_slices_IndexFunc_Message_b2 P T D N (f_slices_IndexFunc_Message_L2 P T D N x0 xr n) x0 xr v0 v1 v7 v8 h
noncomputable def f_slices_IndexFunc_Message (P : Program) (T : Tab) (D : DTab) (N : Nat) {β : Type} (K : AV → Hp → Option β) (a0 : AV) (a1 : AV) (h : Hp) : Option β :=
lenK a0 fun x1 =>
f_slices_IndexFunc_Message_L2 P T D N (fun h => f_slices_IndexFunc_Message_j1 P T D N K h) (fun w9_4 h => K w9_4 h) N a0 a1 x1 (.s (.int .i64 0)) h
theorem f_slices_IndexFunc_Message_b2_eq (P : Program) (T : Tab) (D : DTab) (N : Nat) {β : Type} (xn : AV → AV → AV → AV → Hp → Option β) (x0 : Hp → Option β) (xr : AV → Hp → Option β) (xd : Nat → St → Option β) (xq : St → Option β) (t : Tm) (h : Hp) : o_slices_IndexFunc_Message_L2 P T D N t h (fun (e : Ex) (s : St) => e.on (xn (s.1 0) (s.1 1) (s.1 7) (s.1 8) s.2) (fun i => (bif i == 0 then x0 s.2 else (xd i s))) (xr (s.1 4) s.2)) = f_slices_IndexFunc_Message_b2 P T D N xn x0 xr (t 0) (t 1) (t 7) (t 8) h := by kernel_rfl
theorem f_slices_IndexFunc_Message_L2_eq (P : Program) (T : Tab) (D : DTab) (N : Nat) {β : Type} (A : Ex → St → Option β) (x0 : Hp → Option β) (xr : AV → Hp → Option β) (q0 : ∀ s, A (.exit 0) s = x0 s.2) (qr : ∀ s, A .ret s = xr (s.1 4) s.2) : ∀ (n : Nat) (s : St), iterK (fun s k => o_slices_IndexFunc_Message_L2 P T D N s.1 s.2 k) n s A = f_slices_IndexFunc_Message_L2 P T D N x0 xr n (s.1 0) (s.1 1) (s.1 7) (s.1 8) s.2 := by
  intro n
  induction n with
  | zero => intro s; rfl
  | succ n ih =>
    intro s
    have hk : (fun (e : Ex) (s' : St) => Ex.on e (iterK (fun s k => o_slices_IndexFunc_Message_L2 P T D N s.1 s.2 k) n s' A) (fun i => A (.exit i) s') (A .ret s')) = (fun (e : Ex) (s : St) => e.on ((f_slices_IndexFunc_Message_L2 P T D N x0 xr n) (s.1 0) (s.1 1) (s.1 7) (s.1 8) s.2) (fun i => (bif i == 0 then x0 s.2 else (A (.exit i) s))) (xr (s.1 4) s.2)) := by
      funext e s'
      cases e with
      | normal => exact ih s'
      | ret => exact qr s'
      | exit i =>
        by_cases r0 : i = 0
        · subst r0; exact q0 s'
        simp only [Ex.on, beq_false_of_ne r0, cond_false]
    show o_slices_IndexFunc_Message_L2 P T D N s.1 s.2 (fun (e : Ex) (s' : St) => Ex.on e (iterK (fun s k => o_slices_IndexFunc_Message_L2 P T D N s.1 s.2 k) n s' A) (fun i => A (.exit i) s') (A .ret s')) = _
    rw [hk]
    exact f_slices_IndexFunc_Message_b2_eq P T D N (f_slices_IndexFunc_Message_L2 P T D N x0 xr n) x0 xr (fun i s => A (.exit i) s) (fun s => A .ret s) s.1 s.2
theorem f_slices_IndexFunc_Message_old_eq (P : Program) (T : Tab) (D : DTab) (N : Nat) {β : Type} (K : AV → Hp → Option β) (a0 : AV) (a1 : AV) (h : Hp) : o_slices_IndexFunc_Message P T D N K a0 a1 h = f_slices_IndexFunc_Message P T D N K a0 a1 h := by
  have eL2 : (fun s : St => iterK (fun s k => o_slices_IndexFunc_Message_L2 P T D N s.1 s.2 k) N s (o_slices_IndexFunc_Message_aL2 P T D N K)) = (fun s : St => f_slices_IndexFunc_Message_L2 P T D N (fun h => f_slices_IndexFunc_Message_j1 P T D N K h) (fun w9_4 h => K w9_4 h) N (s.1 0) (s.1 1) (s.1 7) (s.1 8) s.2) := funext fun s => f_slices_IndexFunc_Message_L2_eq P T D N (o_slices_IndexFunc_Message_aL2 P T D N K) (fun h => f_slices_IndexFunc_Message_j1 P T D N K h) (fun w9_4 h => K w9_4 h) (fun s => rfl) (fun s => rfl) N s
  show o_slices_IndexFunc_Message_G P T D N (fun s => iterK (fun s k => o_slices_IndexFunc_Message_L2 P T D N s.1 s.2 k) N s (o_slices_IndexFunc_Message_aL2 P T D N K)) K a0 a1 h = _
  rw [eL2]
  kernel_rfl
theorem o_slices_IndexFunc_Message_run (T : Tab) (D : DTab) (N : Nat) {β : Type} (K : AV → Hp → Option β) (a0 : AV) (a1 : AV) (h : Hp) : runK Try.prog T D N [0, 1, 4, 5, 7, 8, 9, 16] Try.f65 K [a0, a1] h = o_slices_IndexFunc_Message Try.prog T D N K a0 a1 h := by kernel_rfl
theorem f_slices_IndexFunc_Message_run (T : Tab) (D : DTab) (N : Nat) {β : Type} (K : AV → Hp → Option β) (a0 : AV) (a1 : AV) (h : Hp) : runK Try.prog T D N [0, 1, 4, 5, 7, 8, 9, 16] Try.f65 K [a0, a1] h = f_slices_IndexFunc_Message Try.prog T D N K a0 a1 h := (o_slices_IndexFunc_Message_run T D N K a0 a1 h).trans (f_slices_IndexFunc_Message_old_eq Try.prog T D N K a0 a1 h)
noncomputable def f_document_node (P : Program) (T : Tab) (D : DTab) (N : Nat) {β : Type} (K : AV → Hp → Option β) (a0 : AV) (h : Hp) : Option β :=
arithK .geq a0 (.s (.int .i64 1)) fun x1 =>
grpK true x1 h (fun k2 =>
arithK .leq a0 (.s (.int .i64 99)) fun x3 =>
k2 x3 h) fun x4 h5 =>
K x4 h5
theorem f_document_node_run (T : Tab) (D : DTab) (N : Nat) {β : Type} (K : AV → Hp → Option β) (a0 : AV) (h : Hp) : runK Try.prog T D N [0, 2] Try.f67 K [a0] h = f_document_node Try.prog T D N K a0 h := by kernel_rfl
noncomputable def f_network_deliveries (P : Program) (T : Tab) (D : DTab) (N : Nat) {β : Type} (K : AV → Hp → Option β) (a0 : AV) (a1 : AV) (h : Hp) : Option β :=
effK (boxE 1 a0 (List.length h)) h fun x1 h2 =>
effK (boxE 1 a1 (List.length h2)) h2 fun x3 h4 =>
K (.fn 78 [x3, x1]) h4
theorem f_network_deliveries_run (T : Tab) (D : DTab) (N : Nat) {β : Type} (K : AV → Hp → Option β) (a0 : AV) (a1 : AV) (h : Hp) : runK Try.prog T D N [0, 1, 2, 3, 4] Try.f69 K [a0, a1] h = f_network_deliveries Try.prog T D N K a0 a1 h := by kernel_rfl
noncomputable def f_slices_ContainsFunc_int (P : Program) (T : Tab) (D : DTab) (N : Nat) {β : Type} (K : AV → Hp → Option β) (a0 : AV) (a1 : AV) (h : Hp) : Option β :=
callK (T 80) [a0, a1] h fun x1 h2 =>
arithK .geq x1 (.s (.int .i64 0)) fun x3 =>
K x3 h2
theorem f_slices_ContainsFunc_int_run (T : Tab) (D : DTab) (N : Nat) {β : Type} (K : AV → Hp → Option β) (a0 : AV) (a1 : AV) (h : Hp) : runK Try.prog T D N [0, 1, 4] Try.f72 K [a0, a1] h = f_slices_ContainsFunc_int Try.prog T D N K a0 a1 h := by kernel_rfl
noncomputable def f_network_asked_1 (P : Program) (T : Tab) (D : DTab) (N : Nat) {β : Type} (K : AV → Hp → Option β) (a0 : AV) (a1 : AV) (h : Hp) : Option β :=
arithK .lss a0 (.s (.int .i64 0)) fun x1 =>
grpK false x1 h (fun k2 =>
ldK 1 false a1 h fun x3 =>
lenK x3 fun x4 =>
arithK .geq a0 x4 fun x5 =>
k2 x5 h) fun x6 h7 =>
K x6 h7
theorem f_network_asked_1_run (T : Tab) (D : DTab) (N : Nat) {β : Type} (K : AV → Hp → Option β) (a0 : AV) (a1 : AV) (h : Hp) : runK Try.prog T D N [0, 1, 3] Try.f73 K [a0, a1] h = f_network_asked_1 Try.prog T D N K a0 a1 h := by kernel_rfl
noncomputable def o_cmp_Or_int_j1 (P : Program) (T : Tab) (D : DTab) (N : Nat) {β : Type} (K : AV → Hp → Option β) (t : Tm) (h : Hp) : Option β :=
K (t 3) h
noncomputable def o_cmp_Or_int_L2 (P : Program) (T : Tab) (D : DTab) (N : Nat) {β : Type} (t : Tm) (h : Hp) (k : Ex → St → Option β) : Option β :=
arithK .lss (t 8) (t 7) fun x2 =>
condK x2 (
iaK 1 (t 6) (t 8) fun x3 =>
ldK 1 false x3 h fun x4 =>
eqK P true 3 x4 (t 3) h fun x5 =>
condK x5 (
k .ret ((upd (upd (upd (upd t 9 x2) 5 x4) 14 x5) 2 x4), h)) (
arithK .add (t 8) (.s (.int .i64 1)) fun x6 =>
k .normal ((upd (upd (upd (upd t 9 x2) 5 x4) 14 x5) 8 x6), h))) (
k (.exit 0) ((upd t 9 x2), h))
noncomputable def o_cmp_Or_int_aL2 (P : Program) (T : Tab) (D : DTab) (N : Nat) {β : Type} (K : AV → Hp → Option β) (e : Ex) (s : St) : Option β :=
  e.on ((o_cmp_Or_int_j1 P T D N K s.1 s.2))
  (fun i => bif i == 0 then ((o_cmp_Or_int_j1 P T D N K s.1 s.2)) else (none))
  (K (s.1 2) s.2)
noncomputable def o_cmp_Or_int_G (P : Program) (T : Tab) (D : DTab) (N : Nat) {β : Type} (cL2 : St → Option β) (K : AV → Hp → Option β) (a0 : AV) (h : Hp) :  Option β :=
lenK a0 fun x1 =>
cL2 ((upd (upd (upd (upd (upd (tm0 [a0]) 2 (.s (.int .i64 0))) 3 (.s (.int .i64 0))) 6 a0) 7 x1) 8 (.s (.int .i64 0))), h)
noncomputable def o_cmp_Or_int (P : Program) (T : Tab) (D : DTab) (N : Nat) {β : Type} (K : AV → Hp → Option β) (a0 : AV) (h : Hp) : Option β := o_cmp_Or_int_G P T D N (fun s => iterK (fun s k => o_cmp_Or_int_L2 P T D N s.1 s.2 k) N s (o_cmp_Or_int_aL2 P T D N K)) K a0 h
noncomputable def f_cmp_Or_int_j1 (P : Program) (T : Tab) (D : DTab) (N : Nat) {β : Type} (K : AV → Hp → Option β) (v3 : AV) (h : Hp) : Option β :=
K v3 h
noncomputable def f_cmp_Or_int_b2 (P : Program) (T : Tab) (D : DTab) (N : Nat) {β : Type} (xn : AV → AV → AV → AV → Hp → Option β) (x0 : AV → Hp → Option β) (xr : AV → Hp → Option β) (v3 : AV) (v6 : AV) (v7 : AV) (v8 : AV) (h : Hp) : Option β :=
arithK .lss v8 v7 fun x2 =>
condK x2 (
iaK 1 v6 v8 fun x3 =>
ldK 1 false x3 h fun x4 =>
eqK P true 3 x4 v3 h fun x5 =>
condK x5 (
xr x4 h) (
arithK .add v8 (.s (.int .i64 1)) fun x6 =>
xn v3 v6 v7 x6 h)) (
x0 v3 h)
noncomputable def f_cmp_Or_int_L2 (P : Program) (T : Tab) (D : DTab) (N : Nat) {β : Type} (x0 : AV → Hp → Option β) (xr : AV → Hp → Option β) : Nat → AV → AV → AV → AV → Hp → Option β
  | 0 => fun _ _ _ _ _ => none
  | n + 1 => fun v3 v6 v7 v8 h => f_cmp_Or_int_b2 P T D N (f_cmp_Or_int_L2 P T D N x0 xr n) x0 xr v3 v6 v7 v8 h
noncomputable def f_cmp_Or_int (P : Program) (T : Tab) (D : DTab) (N : Nat) {β : Type} (K : AV → Hp → Option β) (a0 : AV) (h : Hp) : Option β :=
lenK a0 fun x1 =>
f_cmp_Or_int_L2 P T D N (fun w7_3 h => f_cmp_Or_int_j1 P T D N K w7_3 h) (fun w8_2 h => K w8_2 h) N (.s (.int .i64 0)) a0 x1 (.s (.int .i64 0)) h
theorem f_cmp_Or_int_b2_eq (P : Program) (T : Tab) (D : DTab) (N : Nat) {β : Type} (xn : AV → AV → AV → AV → Hp → Option β) (x0 : AV → Hp → Option β) (xr : AV → Hp → Option β) (xd : Nat → St → Option β) (xq : St → Option β) (t : Tm) (h : Hp) : o_cmp_Or_int_L2 P T D N t h (fun (e : Ex) (s : St) => e.on (xn (s.1 3) (s.1 6) (s.1 7) (s.1 8) s.2) (fun i => (bif i == 0 then x0 (s.1 3) s.2 else (xd i s))) (xr (s.1 2) s.2)) = f_cmp_Or_int_b2 P T D N xn x0 xr (t 3) (t 6) (t 7) (t 8) h := by kernel_rfl
theorem f_cmp_Or_int_L2_eq (P : Program) (T : Tab) (D : DTab) (N : Nat) {β : Type} (A : Ex → St → Option β) (x0 : AV → Hp → Option β) (xr : AV → Hp → Option β) (q0 : ∀ s, A (.exit 0) s = x0 (s.1 3) s.2) (qr : ∀ s, A .ret s = xr (s.1 2) s.2) : ∀ (n : Nat) (s : St), iterK (fun s k => o_cmp_Or_int_L2 P T D N s.1 s.2 k) n s A = f_cmp_Or_int_L2 P T D N x0 xr n (s.1 3) (s.1 6) (s.1 7) (s.1 8) s.2 := by
  intro n
  induction n with
  | zero => intro s; rfl
  | succ n ih =>
    intro s
    have hk : (fun (e : Ex) (s' : St) => Ex.on e (iterK (fun s k => o_cmp_Or_int_L2 P T D N s.1 s.2 k) n s' A) (fun i => A (.exit i) s') (A .ret s')) = (fun (e : Ex) (s : St) => e.on ((f_cmp_Or_int_L2 P T D N x0 xr n) (s.1 3) (s.1 6) (s.1 7) (s.1 8) s.2) (fun i => (bif i == 0 then x0 (s.1 3) s.2 else (A (.exit i) s))) (xr (s.1 2) s.2)) := by
      funext e s'
      cases e with
      | normal => exact ih s'
      | ret => exact qr s'
      | exit i =>
        by_cases r0 : i = 0
        · subst r0; exact q0 s'
        simp only [Ex.on, beq_false_of_ne r0, cond_false]
    show o_cmp_Or_int_L2 P T D N s.1 s.2 (fun (e : Ex) (s' : St) => Ex.on e (iterK (fun s k => o_cmp_Or_int_L2 P T D N s.1 s.2 k) n s' A) (fun i => A (.exit i) s') (A .ret s')) = _
    rw [hk]
    exact f_cmp_Or_int_b2_eq P T D N (f_cmp_Or_int_L2 P T D N x0 xr n) x0 xr (fun i s => A (.exit i) s) (fun s => A .ret s) s.1 s.2
theorem f_cmp_Or_int_old_eq (P : Program) (T : Tab) (D : DTab) (N : Nat) {β : Type} (K : AV → Hp → Option β) (a0 : AV) (h : Hp) : o_cmp_Or_int P T D N K a0 h = f_cmp_Or_int P T D N K a0 h := by
  have eL2 : (fun s : St => iterK (fun s k => o_cmp_Or_int_L2 P T D N s.1 s.2 k) N s (o_cmp_Or_int_aL2 P T D N K)) = (fun s : St => f_cmp_Or_int_L2 P T D N (fun w7_3 h => f_cmp_Or_int_j1 P T D N K w7_3 h) (fun w8_2 h => K w8_2 h) N (s.1 3) (s.1 6) (s.1 7) (s.1 8) s.2) := funext fun s => f_cmp_Or_int_L2_eq P T D N (o_cmp_Or_int_aL2 P T D N K) (fun w7_3 h => f_cmp_Or_int_j1 P T D N K w7_3 h) (fun w8_2 h => K w8_2 h) (fun s => rfl) (fun s => rfl) N s
  show o_cmp_Or_int_G P T D N (fun s => iterK (fun s k => o_cmp_Or_int_L2 P T D N s.1 s.2 k) N s (o_cmp_Or_int_aL2 P T D N K)) K a0 h = _
  rw [eL2]
  kernel_rfl
theorem o_cmp_Or_int_run (T : Tab) (D : DTab) (N : Nat) {β : Type} (K : AV → Hp → Option β) (a0 : AV) (h : Hp) : runK Try.prog T D N [0, 2, 3, 5, 6, 7, 8, 9, 14] Try.f76 K [a0] h = o_cmp_Or_int Try.prog T D N K a0 h := by kernel_rfl
theorem f_cmp_Or_int_run (T : Tab) (D : DTab) (N : Nat) {β : Type} (K : AV → Hp → Option β) (a0 : AV) (h : Hp) : runK Try.prog T D N [0, 2, 3, 5, 6, 7, 8, 9, 14] Try.f76 K [a0] h = f_cmp_Or_int Try.prog T D N K a0 h := (o_cmp_Or_int_run T D N K a0 h).trans (f_cmp_Or_int_old_eq Try.prog T D N K a0 h)
noncomputable def f_cmp_Compare_int (P : Program) (T : Tab) (D : DTab) (N : Nat) {β : Type} (K : AV → Hp → Option β) (a0 : AV) (a1 : AV) (h : Hp) : Option β :=
callK (T 91) [a0] h fun x1 h2 =>
callK (T 91) [a1] h2 fun x3 h4 =>
condK x1 (
condK x3 (
K (.s (.int .i64 0)) h4) (
K (.s (.int .i64 (-1))) h4)) (
condK x3 (
K (.s (.int .i64 1)) h4) (
arithK .lss a0 a1 fun x5 =>
condK x5 (
K (.s (.int .i64 (-1))) h4) (
arithK .gtr a0 a1 fun x6 =>
condK x6 (
K (.s (.int .i64 1)) h4) (
K (.s (.int .i64 0)) h4))))
theorem f_cmp_Compare_int_run (T : Tab) (D : DTab) (N : Nat) {β : Type} (K : AV → Hp → Option β) (a0 : AV) (a1 : AV) (h : Hp) : runK Try.prog T D N [0, 1, 4, 5, 6, 11, 12, 13, 16, 19] Try.f77 K [a0, a1] h = f_cmp_Compare_int Try.prog T D N K a0 a1 h := by kernel_rfl
noncomputable def o_network_deliveries_1_j1 (P : Program) (T : Tab) (D : DTab) (N : Nat) {β : Type} (K : AV → Hp → Option β) (t : Tm) (h : Hp) : Option β :=
K (.tup []) h
noncomputable def o_network_deliveries_1_L2 (P : Program) (T : Tab) (D : DTab) (N : Nat) {β : Type} (t : Tm) (h : Hp) (k : Ex → St → Option β) : Option β :=
arithK .lss (t 8) (t 7) fun x3 =>
condK x3 (
iaK 1 (t 6) (t 8) fun x4 =>
ldK 1 false x4 h fun x5 =>
ldK 1 false (t 2) h fun x6 =>
iaK 10 x6 x5 fun x7 =>
ldK 10 true x7 h fun x8 =>
callVK T (t 0) [x5, x8] h fun x9 h10 =>
notK x9 fun x11 =>
condK x11 (
k .ret ((upd (upd (upd t 9 x3) 5 x5) 19 x11), h10)) (
arithK .add (t 8) (.s (.int .i64 1)) fun x12 =>
k .normal ((upd (upd (upd (upd t 9 x3) 5 x5) 19 x11) 8 x12), h10))) (
k (.exit 0) ((upd t 9 x3), h))
noncomputable def o_network_deliveries_1_aL2 (P : Program) (T : Tab) (D : DTab) (N : Nat) {β : Type} (K : AV → Hp → Option β) (e : Ex) (s : St) : Option β :=
  e.on ((o_network_deliveries_1_j1 P T D N K s.1 s.2))
  (fun i => bif i == 0 then ((o_network_deliveries_1_j1 P T D N K s.1 s.2)) else (none))
  (K (.tup []) s.2)
noncomputable def o_network_deliveries_1_G (P : Program) (T : Tab) (D : DTab) (N : Nat) {β : Type} (cL2 : St → Option β) (K : AV → Hp → Option β) (a0 : AV) (a1 : AV) (a2 : AV) (h : Hp) :  Option β :=
ldK 1 false a1 h fun x1 =>
lenK x1 fun x2 =>
cL2 ((upd (upd (upd (tm0 [a0, a1, a2]) 6 x1) 7 x2) 8 (.s (.int .i64 0))), h)
noncomputable def o_network_deliveries_1 (P : Program) (T : Tab) (D : DTab) (N : Nat) {β : Type} (K : AV → Hp → Option β) (a0 : AV) (a1 : AV) (a2 : AV) (h : Hp) : Option β := o_network_deliveries_1_G P T D N (fun s => iterK (fun s k => o_network_deliveries_1_L2 P T D N s.1 s.2 k) N s (o_network_deliveries_1_aL2 P T D N K)) K a0 a1 a2 h
noncomputable def f_network_deliveries_1_j1 (P : Program) (T : Tab) (D : DTab) (N : Nat) {β : Type} (K : AV → Hp → Option β) (h : Hp) : Option β :=
K (.tup []) h
noncomputable def f_network_deliveries_1_b2 (P : Program) (T : Tab) (D : DTab) (N : Nat) {β : Type} (xn : AV → AV → AV → AV → AV → Hp → Option β) (x0 : Hp → Option β) (xr : Hp → Option β) (v0 : AV) (v2 : AV) (v6 : AV) (v7 : AV) (v8 : AV) (h : Hp) : Option β :=
arithK .lss v8 v7 fun x3 =>
condK x3 (
iaK 1 v6 v8 fun x4 =>
ldK 1 false x4 h fun x5 =>
ldK 1 false v2 h fun x6 =>
iaK 10 x6 x5 fun x7 =>
ldK 10 true x7 h fun x8 =>
callVK T v0 [x5, x8] h fun x9 h10 =>
notK x9 fun x11 =>
condK x11 (
xr h10) (
arithK .add v8 (.s (.int .i64 1)) fun x12 =>
xn v0 v2 v6 v7 x12 h10)) (
x0 h)
noncomputable def f_network_deliveries_1_L2 (P : Program) (T : Tab) (D : DTab) (N : Nat) {β : Type} (x0 : Hp → Option β) (xr : Hp → Option β) : Nat → AV → AV → AV → AV → AV → Hp → Option β
  | 0 => fun _ _ _ _ _ _ => none
  | n + 1 => fun v0 v2 v6 v7 v8 h => f_network_deliveries_1_b2 P T D N (f_network_deliveries_1_L2 P T D N x0 xr n) x0 xr v0 v2 v6 v7 v8 h
noncomputable def f_network_deliveries_1 (P : Program) (T : Tab) (D : DTab) (N : Nat) {β : Type} (K : AV → Hp → Option β) (a0 : AV) (a1 : AV) (a2 : AV) (h : Hp) : Option β :=
ldK 1 false a1 h fun x1 =>
lenK x1 fun x2 =>
f_network_deliveries_1_L2 P T D N (fun h => f_network_deliveries_1_j1 P T D N K h) (fun h => K (.tup []) h) N a0 a2 x1 x2 (.s (.int .i64 0)) h
theorem f_network_deliveries_1_b2_eq (P : Program) (T : Tab) (D : DTab) (N : Nat) {β : Type} (xn : AV → AV → AV → AV → AV → Hp → Option β) (x0 : Hp → Option β) (xr : Hp → Option β) (xd : Nat → St → Option β) (xq : St → Option β) (t : Tm) (h : Hp) : o_network_deliveries_1_L2 P T D N t h (fun (e : Ex) (s : St) => e.on (xn (s.1 0) (s.1 2) (s.1 6) (s.1 7) (s.1 8) s.2) (fun i => (bif i == 0 then x0 s.2 else (xd i s))) (xr s.2)) = f_network_deliveries_1_b2 P T D N xn x0 xr (t 0) (t 2) (t 6) (t 7) (t 8) h := by kernel_rfl
theorem f_network_deliveries_1_L2_eq (P : Program) (T : Tab) (D : DTab) (N : Nat) {β : Type} (A : Ex → St → Option β) (x0 : Hp → Option β) (xr : Hp → Option β) (q0 : ∀ s, A (.exit 0) s = x0 s.2) (qr : ∀ s, A .ret s = xr s.2) : ∀ (n : Nat) (s : St), iterK (fun s k => o_network_deliveries_1_L2 P T D N s.1 s.2 k) n s A = f_network_deliveries_1_L2 P T D N x0 xr n (s.1 0) (s.1 2) (s.1 6) (s.1 7) (s.1 8) s.2 := by
  intro n
  induction n with
  | zero => intro s; rfl
  | succ n ih =>
    intro s
    have hk : (fun (e : Ex) (s' : St) => Ex.on e (iterK (fun s k => o_network_deliveries_1_L2 P T D N s.1 s.2 k) n s' A) (fun i => A (.exit i) s') (A .ret s')) = (fun (e : Ex) (s : St) => e.on ((f_network_deliveries_1_L2 P T D N x0 xr n) (s.1 0) (s.1 2) (s.1 6) (s.1 7) (s.1 8) s.2) (fun i => (bif i == 0 then x0 s.2 else (A (.exit i) s))) (xr s.2)) := by
      funext e s'
      cases e with
      | normal => exact ih s'
      | ret => exact qr s'
      | exit i =>
        by_cases r0 : i = 0
        · subst r0; exact q0 s'
        simp only [Ex.on, beq_false_of_ne r0, cond_false]
    show o_network_deliveries_1_L2 P T D N s.1 s.2 (fun (e : Ex) (s' : St) => Ex.on e (iterK (fun s k => o_network_deliveries_1_L2 P T D N s.1 s.2 k) n s' A) (fun i => A (.exit i) s') (A .ret s')) = _
    rw [hk]
    exact f_network_deliveries_1_b2_eq P T D N (f_network_deliveries_1_L2 P T D N x0 xr n) x0 xr (fun i s => A (.exit i) s) (fun s => A .ret s) s.1 s.2
theorem f_network_deliveries_1_old_eq (P : Program) (T : Tab) (D : DTab) (N : Nat) {β : Type} (K : AV → Hp → Option β) (a0 : AV) (a1 : AV) (a2 : AV) (h : Hp) : o_network_deliveries_1 P T D N K a0 a1 a2 h = f_network_deliveries_1 P T D N K a0 a1 a2 h := by
  have eL2 : (fun s : St => iterK (fun s k => o_network_deliveries_1_L2 P T D N s.1 s.2 k) N s (o_network_deliveries_1_aL2 P T D N K)) = (fun s : St => f_network_deliveries_1_L2 P T D N (fun h => f_network_deliveries_1_j1 P T D N K h) (fun h => K (.tup []) h) N (s.1 0) (s.1 2) (s.1 6) (s.1 7) (s.1 8) s.2) := funext fun s => f_network_deliveries_1_L2_eq P T D N (o_network_deliveries_1_aL2 P T D N K) (fun h => f_network_deliveries_1_j1 P T D N K h) (fun h => K (.tup []) h) (fun s => rfl) (fun s => rfl) N s
  show o_network_deliveries_1_G P T D N (fun s => iterK (fun s k => o_network_deliveries_1_L2 P T D N s.1 s.2 k) N s (o_network_deliveries_1_aL2 P T D N K)) K a0 a1 a2 h = _
  rw [eL2]
  kernel_rfl
theorem o_network_deliveries_1_run (T : Tab) (D : DTab) (N : Nat) {β : Type} (K : AV → Hp → Option β) (a0 : AV) (a1 : AV) (a2 : AV) (h : Hp) : runK Try.prog T D N [0, 1, 2, 5, 6, 7, 8, 9, 19] Try.f78 K [a0, a1, a2] h = o_network_deliveries_1 Try.prog T D N K a0 a1 a2 h := by kernel_rfl
theorem f_network_deliveries_1_run (T : Tab) (D : DTab) (N : Nat) {β : Type} (K : AV → Hp → Option β) (a0 : AV) (a1 : AV) (a2 : AV) (h : Hp) : runK Try.prog T D N [0, 1, 2, 5, 6, 7, 8, 9, 19] Try.f78 K [a0, a1, a2] h = f_network_deliveries_1 Try.prog T D N K a0 a1 a2 h := (o_network_deliveries_1_run T D N K a0 a1 a2 h).trans (f_network_deliveries_1_old_eq Try.prog T D N K a0 a1 a2 h)
noncomputable def o_slices_IndexFunc_int_j1 (P : Program) (T : Tab) (D : DTab) (N : Nat) {β : Type} (K : AV → Hp → Option β) (t : Tm) (h : Hp) : Option β :=
K (.s (.int .i64 (-1))) h
noncomputable def o_slices_IndexFunc_int_L2 (P : Program) (T : Tab) (D : DTab) (N : Nat) {β : Type} (t : Tm) (h : Hp) (k : Ex → St → Option β) : Option β :=
arithK .lss (t 8) (t 7) fun x2 =>
condK x2 (
iaK 1 (t 0) (t 8) fun x3 =>
ldK 1 false x3 h fun x4 =>
callVK T (t 1) [x4] h fun x5 h6 =>
condK x5 (
k .ret ((upd (upd (upd (upd t 9 x2) 5 (t 8)) 16 x5) 4 (t 8)), h6)) (
arithK .add (t 8) (.s (.int .i64 1)) fun x7 =>
k .normal ((upd (upd (upd (upd t 9 x2) 5 (t 8)) 16 x5) 8 x7), h6))) (
k (.exit 0) ((upd t 9 x2), h))
noncomputable def o_slices_IndexFunc_int_aL2 (P : Program) (T : Tab) (D : DTab) (N : Nat) {β : Type} (K : AV → Hp → Option β) (e : Ex) (s : St) : Option β :=
  e.on ((o_slices_IndexFunc_int_j1 P T D N K s.1 s.2))
  (fun i => bif i == 0 then ((o_slices_IndexFunc_int_j1 P T D N K s.1 s.2)) else (none))
  (K (s.1 4) s.2)
noncomputable def o_slices_IndexFunc_int_G (P : Program) (T : Tab) (D : DTab) (N : Nat) {β : Type} (cL2 : St → Option β) (K : AV → Hp → Option β) (a0 : AV) (a1 : AV) (h : Hp) :  Option β :=
lenK a0 fun x1 =>
cL2 ((upd (upd (upd (tm0 [a0, a1]) 4 (.s (.int .i64 0))) 7 x1) 8 (.s (.int .i64 0))), h)
noncomputable def o_slices_IndexFunc_int (P : Program) (T : Tab) (D : DTab) (N : Nat) {β : Type} (K : AV → Hp → Option β) (a0 : AV) (a1 : AV) (h : Hp) : Option β := o_slices_IndexFunc_int_G P T D N (fun s => iterK (fun s k => o_slices_IndexFunc_int_L2 P T D N s.1 s.2 k) N s (o_slices_IndexFunc_int_aL2 P T D N K)) K a0 a1 h
noncomputable def f_slices_IndexFunc_int_j1 (P : Program) (T : Tab) (D : DTab) (N : Nat) {β : Type} (K : AV → Hp → Option β) (h : Hp) : Option β :=
K (.s (.int .i64 (-1))) h
noncomputable def f_slices_IndexFunc_int_b2 (P : Program) (T : Tab) (D : DTab) (N : Nat) {β : Type} (xn : AV → AV → AV → AV → Hp → Option β) (x0 : Hp → Option β) (xr : AV → Hp → Option β) (v0 : AV) (v1 : AV) (v7 : AV) (v8 : AV) (h : Hp) : Option β :=
arithK .lss v8 v7 fun x2 =>
condK x2 (
iaK 1 v0 v8 fun x3 =>
ldK 1 false x3 h fun x4 =>
callVK T v1 [x4] h fun x5 h6 =>
condK x5 (
xr v8 h6) (
arithK .add v8 (.s (.int .i64 1)) fun x7 =>
xn v0 v1 v7 x7 h6)) (
x0 h)
noncomputable def f_slices_IndexFunc_int_L2 (P : Program) (T : Tab) (D : DTab) (N : Nat) {β : Type} (x0 : Hp → Option β) (xr : AV → Hp → Option β) : Nat → AV → AV → AV → AV → Hp → Option β
  | 0 => fun _ _ _ _ _ => none
  | n + 1 => fun v0 v1 v7 v8 h => f_slices_IndexFunc_int_b2 P T D N (f_slices_IndexFunc_int_L2 P T D N x0 xr n) x0 xr v0 v1 v7 v8 h
noncomputable def f_slices_IndexFunc_int (P : Program) (T : Tab) (D : DTab) (N : Nat) {β : Type} (K : AV → Hp → Option β) (a0 : AV) (a1 : AV) (h : Hp) : Option β :=
lenK a0 fun x1 =>
f_slices_IndexFunc_int_L2 P T D N (fun h => f_slices_IndexFunc_int_j1 P T D N K h) (fun w9_4 h => K w9_4 h) N a0 a1 x1 (.s (.int .i64 0)) h
theorem f_slices_IndexFunc_int_b2_eq (P : Program) (T : Tab) (D : DTab) (N : Nat) {β : Type} (xn : AV → AV → AV → AV → Hp → Option β) (x0 : Hp → Option β) (xr : AV → Hp → Option β) (xd : Nat → St → Option β) (xq : St → Option β) (t : Tm) (h : Hp) : o_slices_IndexFunc_int_L2 P T D N t h (fun (e : Ex) (s : St) => e.on (xn (s.1 0) (s.1 1) (s.1 7) (s.1 8) s.2) (fun i => (bif i == 0 then x0 s.2 else (xd i s))) (xr (s.1 4) s.2)) = f_slices_IndexFunc_int_b2 P T D N xn x0 xr (t 0) (t 1) (t 7) (t 8) h := by kernel_rfl
theorem f_slices_IndexFunc_int_L2_eq (P : Program) (T : Tab) (D : DTab) (N : Nat) {β : Type} (A : Ex → St → Option β) (x0 : Hp → Option β) (xr : AV → Hp → Option β) (q0 : ∀ s, A (.exit 0) s = x0 s.2) (qr : ∀ s, A .ret s = xr (s.1 4) s.2) : ∀ (n : Nat) (s : St), iterK (fun s k => o_slices_IndexFunc_int_L2 P T D N s.1 s.2 k) n s A = f_slices_IndexFunc_int_L2 P T D N x0 xr n (s.1 0) (s.1 1) (s.1 7) (s.1 8) s.2 := by
  intro n
  induction n with
  | zero => intro s; rfl
  | succ n ih =>
    intro s
    have hk : (fun (e : Ex) (s' : St) => Ex.on e (iterK (fun s k => o_slices_IndexFunc_int_L2 P T D N s.1 s.2 k) n s' A) (fun i => A (.exit i) s') (A .ret s')) = (fun (e : Ex) (s : St) => e.on ((f_slices_IndexFunc_int_L2 P T D N x0 xr n) (s.1 0) (s.1 1) (s.1 7) (s.1 8) s.2) (fun i => (bif i == 0 then x0 s.2 else (A (.exit i) s))) (xr (s.1 4) s.2)) := by
      funext e s'
      cases e with
      | normal => exact ih s'
      | ret => exact qr s'
      | exit i =>
        by_cases r0 : i = 0
        · subst r0; exact q0 s'
        simp only [Ex.on, beq_false_of_ne r0, cond_false]
    show o_slices_IndexFunc_int_L2 P T D N s.1 s.2 (fun (e : Ex) (s' : St) => Ex.on e (iterK (fun s k => o_slices_IndexFunc_int_L2 P T D N s.1 s.2 k) n s' A) (fun i => A (.exit i) s') (A .ret s')) = _
    rw [hk]
    exact f_slices_IndexFunc_int_b2_eq P T D N (f_slices_IndexFunc_int_L2 P T D N x0 xr n) x0 xr (fun i s => A (.exit i) s) (fun s => A .ret s) s.1 s.2
theorem f_slices_IndexFunc_int_old_eq (P : Program) (T : Tab) (D : DTab) (N : Nat) {β : Type} (K : AV → Hp → Option β) (a0 : AV) (a1 : AV) (h : Hp) : o_slices_IndexFunc_int P T D N K a0 a1 h = f_slices_IndexFunc_int P T D N K a0 a1 h := by
  have eL2 : (fun s : St => iterK (fun s k => o_slices_IndexFunc_int_L2 P T D N s.1 s.2 k) N s (o_slices_IndexFunc_int_aL2 P T D N K)) = (fun s : St => f_slices_IndexFunc_int_L2 P T D N (fun h => f_slices_IndexFunc_int_j1 P T D N K h) (fun w9_4 h => K w9_4 h) N (s.1 0) (s.1 1) (s.1 7) (s.1 8) s.2) := funext fun s => f_slices_IndexFunc_int_L2_eq P T D N (o_slices_IndexFunc_int_aL2 P T D N K) (fun h => f_slices_IndexFunc_int_j1 P T D N K h) (fun w9_4 h => K w9_4 h) (fun s => rfl) (fun s => rfl) N s
  show o_slices_IndexFunc_int_G P T D N (fun s => iterK (fun s k => o_slices_IndexFunc_int_L2 P T D N s.1 s.2 k) N s (o_slices_IndexFunc_int_aL2 P T D N K)) K a0 a1 h = _
  rw [eL2]
  kernel_rfl
theorem o_slices_IndexFunc_int_run (T : Tab) (D : DTab) (N : Nat) {β : Type} (K : AV → Hp → Option β) (a0 : AV) (a1 : AV) (h : Hp) : runK Try.prog T D N [0, 1, 4, 5, 7, 8, 9, 16] Try.f80 K [a0, a1] h = o_slices_IndexFunc_int Try.prog T D N K a0 a1 h := by kernel_rfl
theorem f_slices_IndexFunc_int_run (T : Tab) (D : DTab) (N : Nat) {β : Type} (K : AV → Hp → Option β) (a0 : AV) (a1 : AV) (h : Hp) : runK Try.prog T D N [0, 1, 4, 5, 7, 8, 9, 16] Try.f80 K [a0, a1] h = f_slices_IndexFunc_int Try.prog T D N K a0 a1 h := (o_slices_IndexFunc_int_run T D N K a0 a1 h).trans (f_slices_IndexFunc_int_old_eq Try.prog T D N K a0 a1 h)
noncomputable def f_cmp_isNaN_int (P : Program) (T : Tab) (D : DTab) (N : Nat) {β : Type} (K : AV → Hp → Option β) (a0 : AV) (h : Hp) : Option β :=
eqK P true 3 a0 a0 h fun x1 =>
K x1 h
theorem f_cmp_isNaN_int_run (T : Tab) (D : DTab) (N : Nat) {β : Type} (K : AV → Hp → Option β) (a0 : AV) (h : Hp) : runK Try.prog T D N [0, 2] Try.f91 K [a0] h = f_cmp_isNaN_int Try.prog T D N K a0 h := by kernel_rfl
end Go.AM


namespace Go.AM
open Go.RowKit
set_option linter.unusedVariables false
set_option linter.unusedSimpArgs false
set_option linter.constructorNameAsVariable false
variable {P : Program} {μ μ' : Mu} {h h' h1 : Hp} {w w' : World}
def Near (h h1 : Hp) : Prop := h1.length = h.length ∧ ∀ (id : Nat) (o : AObj), h[id]? = some o → h1[id]? = some o ∨ ∃ sz es es' own nil, o = .arr sz es own nil ∧ h1[id]? = some (.arr sz es' own nil) ∧ es'.length = es.length ∧ ∀ e ∈ es', ∀ c ∈ e, plain c = true
theorem Near.back (n : Near h h1) {id : Nat} {o : AObj} (ho : h1[id]? = some o) : h[id]? = some o ∨ ∃ sz es es' own nil, o = .arr sz es' own nil ∧ h[id]? = some (.arr sz es own nil) ∧ es'.length = es.length ∧ ∀ e ∈ es', ∀ c ∈ e, plain c = true := by
  have hl : id < h.length := by rw [← n.1]; exact (List.getElem?_eq_some_iff.1 ho).1
  have hh : h[id]? = some h[id] := List.getElem?_eq_getElem hl
  rcases n.2 id _ hh with h2 | ⟨sz, es, es', own, nil, h2, h3, h4, h5⟩
  · left
    rw [h2] at ho
    rw [hh]; exact ho
  · right
    rw [h3] at ho
    injection ho with ho
    exact ⟨sz, es, es', own, nil, ho.symm, by rw [hh, h2], h4, h5⟩
theorem Step.forget2 {g : List AObj} (R : Rel μ h w) (n : Near h h1) (S : Step μ h w μ' (h1 ++ g) w') : Step μ h w (μ.mix μ') h1 w' ∧ Ext (μ.mix μ') h1 μ' (h1 ++ g) := by
  have hin : ∀ i o, h1[i]? = some o → (h1 ++ g)[i]? = some o := fun i o hi => by
    rw [List.getElem?_append_left (List.getElem?_eq_some_iff.1 hi).1]; exact hi
  have hloc : ∀ (id : Nat) (o : AObj), h[id]? = some o → o ≠ .dead → μ' id = μ id := by
    intro id o ho hd
    have := S.evo.obj id o ho
    cases o with
    | dead => exact absurd rfl hd
    | loop m ps asg body ts st pend => obtain ⟨_, _, _, h2⟩ := this; exact h2
    | iter m n seen => obtain ⟨_, _, h2⟩ := this; exact h2
    | map kvs => obtain ⟨_, _, h2⟩ := this; exact h2
    | arr sz es own nil =>
      obtain ⟨es', nil', q1, q2, q3⟩ := this
      rcases n.2 id _ ho with h2 | ⟨sz2, es2, es3, own2, nil2, h2, h3, h4, h5⟩
      · rw [hin _ _ h2] at q1
        injection q1 with q1
        injection q1 with e1 e2 e3 e4
        exact q3 (by rw [e2])
      · rw [hin _ _ h3] at q1
        injection q1 with q1
        injection q1 with e1 e2 e3 e4
        injection h2 with f1 f2 f3 f4
        exact q3 (by rw [← e2, h4, f2])
  have hloc1 : ∀ (id : Nat) (o : AObj), h1[id]? = some o → o ≠ .dead → μ' id = μ id := by
    intro id o ho hd
    rcases n.back ho with h2 | ⟨sz, es, es', own, nil, h2, h3, h4, h5⟩
    · exact hloc id o h2 hd
    · exact hloc id _ h3 (by simp)
  have he : Ext (μ.mix μ') h1 μ' (h1 ++ g) := ⟨fun k hk => ⟨hk, rfl⟩, fun id o ho => ⟨hin _ _ ho, fun hd => hloc1 id o ho hd⟩⟩
  have hE : Evo μ h (μ.mix μ') h1 := by
    refine ⟨S.evo.imm, fun id o ho => ?_⟩
    rcases n.2 id _ ho with h2 | ⟨sz2, es2, es3, own2, nil2, rfl, h3, h4, h5⟩
    · cases o with
      | dead => trivial
      | loop m ps asg body ts st pend => exact ⟨st, pend, h2, rfl⟩
      | iter m n seen => exact ⟨seen, h2, rfl⟩
      | map kvs => exact ⟨kvs, h2, rfl⟩
      | arr sz es own nil => exact ⟨es, nil, h2, Nat.le_refl _, fun _ => rfl⟩
    · exact ⟨es3, nil2, h3, by omega, fun _ => rfl⟩
  have hmu : ∀ i o b x c, h1[i]? = some o → isOwn o = true → (μ.mix μ') i = .real b x c → μ' i = .real b x c := fun i o b x c p1 p2 p3 => by
    rw [hloc1 i o p1 (by rintro rfl; simp [isOwn] at p2)]; exact p3
  have hown : ∀ b, Own (μ.mix μ') h1 b → Own μ' (h1 ++ g) b := by
    rintro b ⟨id, o, x, c, p1, p2, p3⟩
    exact ⟨id, o, x, c, hin _ _ p1, p2, hmu _ _ _ _ _ p1 p2 p3⟩
  have hown0 : ∀ b, Own (μ.mix μ') h1 b → Own μ h b := by
    rintro b ⟨id, o, x, c, p1, p2, p3⟩
    rcases n.back p1 with h2 | ⟨sz, es, es', own, nil, rfl, h3, h4, h5⟩
    · exact ⟨id, o, x, c, h2, p2, p3⟩
    · exact ⟨id, _, x, c, h3, p2, p3⟩
  refine ⟨⟨⟨fun id o ho => ?_, ?_, ?_, ?_⟩, hE, S.frame, fun b hb => .inl (hown0 b hb), S.fresh⟩, he⟩
  · have H := S.rel.obj id o (hin _ _ ho)
    rcases n.back ho with h2 | ⟨sz, es, es', own, nil, rfl, h3, h4, h5⟩
    · exact ORel.back he ho (w := w) (ORel.mono hE rfl (fun _ _ _ _ => rfl) (Nat.le_refl _) (R.obj id o h2)) H
    · refine ⟨H.1, ?_⟩
      have H2 := H.2
      have hm : μ' id = (μ.mix μ') id := hloc1 id _ ho (by simp)
      rw [← hm]
      cases hmu2 : μ' id with
      | virt A => rw [hmu2] at H2; exact H2
      | real blk x c =>
        rw [hmu2] at H2
        obtain ⟨q1, q2, q3, q4, q5, q6⟩ := H2
        refine ⟨q1, q2, q3, q4, fun i e j a p q => ?_, q6⟩
        obtain ⟨v, r1, r2, r3⟩ := q5 i e j a p q
        exact ⟨v, r1, r2, plain_VR he.imm (h5 e (List.mem_of_getElem? p) a (List.mem_of_getElem? q)) r3⟩
  · intro i j o p b x c y d hi hj hoi hpj hmi hmj
    exact S.rel.sep i j o p b x c y d (hin _ _ hi) (hin _ _ hj) hoi hpj (hmu _ _ _ _ _ hi hoi hmi) (hmu _ _ _ _ _ hj hpj hmj)
  · intro i sz es nil b x c hi hmi hO
    rcases n.back hi with h2 | ⟨sz2, es2, es3, own2, nil2, h2, h3, h4, h5⟩
    · exact R.apart i sz es nil b x c h2 hmi (hown0 b hO)
    · injection h2 with f1 f2 f3 f4
      subst f1 f3 f4
      exact R.apart i _ es2 _ b x c h3 hmi (hown0 b hO)
  · intro k hk
    obtain ⟨p1, p2, p3⟩ := S.rel.imm k hk
    exact ⟨p1, p2, fun hO => p3 (hown k hO)⟩
def Writes (F : Fun) (id : Nat) (x : AV) (sz : Nat) (xs zs : List AV) : Prop :=
  (∀ c ∈ zs, plain c = true) ∧ ∀ H : Hp, H[id]? = some (.arr sz [xs] true false) → ∃ g, F [.ptr id 0 0 1, x] H = some (.tup [], H.set id (.arr sz [zs] true false) ++ g)
open Classical in
noncomputable def wrD (F : Fun) : DFun := fun args h base => match args with
  | [.ptr id 0 0 1, x] => match h[id]? with
    | some (.arr sz [xs] true false) => if hx : ∃ zs, Writes F id x sz xs zs then some (.tup [], ⟨[(id, .arr sz [hx.choose] true false)], [], [id]⟩) else none
    | _ => none
  | _ => none
theorem Writes.unique {F : Fun} {id : Nat} {x : AV} {sz : Nat} {xs zs ys : List AV} {h : Hp} (hid : h[id]? = some (.arr sz [xs] true false)) (h1 : Writes F id x sz xs zs) (h2 : Writes F id x sz xs ys) : zs = ys := by
  obtain ⟨g1, e1⟩ := h1.2 h hid
  obtain ⟨g2, e2⟩ := h2.2 h hid
  rw [e1] at e2
  injection e2 with e2
  injection e2 with _ e2
  have hl := (List.getElem?_eq_some_iff.1 hid).1
  have := congrArg (fun l : Hp => l[id]?) e2
  rw [List.getElem?_append_left (by simpa using hl), List.getElem?_append_left (by simpa using hl), List.getElem?_set_self hl, List.getElem?_set_self hl] at this
  injection this with this
  injection this with _ this
  injection this
theorem wrD_val {F : Fun} {id : Nat} {x : AV} {sz : Nat} {xs zs : List AV} {h : Hp} (hid : h[id]? = some (.arr sz [xs] true false)) (hw : Writes F id x sz xs zs) (base : Nat) : wrD F [.ptr id 0 0 1, x] h base = some (.tup [], ⟨[(id, .arr sz [zs] true false)], [], [id]⟩) := by
  have hx : ∃ zs, Writes F id x sz xs zs := ⟨zs, hw⟩
  simp only [wrD, hid]
  rw [dif_pos hx, Writes.unique hid hx.choose_spec hw]
theorem wrD_inv {F : Fun} {args : List AV} {h : Hp} {base : Nat} {v : AV} {e : Eff} (hk : wrD F args h base = some (v, e)) : ∃ id x sz xs zs, args = [.ptr id 0 0 1, x] ∧ h[id]? = some (.arr sz [xs] true false) ∧ Writes F id x sz xs zs ∧ v = .tup [] ∧ e = ⟨[(id, .arr sz [zs] true false)], [], [id]⟩ := by
  unfold wrD at hk
  split at hk <;> try (simp at hk; done)
  rename_i id x
  split at hk <;> try (simp at hk; done)
  rename_i sz xs hid
  split at hk <;> try (simp at hk; done)
  rename_i hx
  simp only [Option.some.injEq, Prod.mk.injEq] at hk
  exact ⟨id, x, sz, xs, hx.choose, rfl, hid, hx.choose_spec, hk.1.symm, hk.2.symm⟩
theorem wrD_loc (F : Fun) : DLoc (wrD F) := by
  refine ⟨fun args h base v e hk H hag => ?_, fun args h base v e hk p hp => ?_⟩
  · obtain ⟨id, x, sz, xs, zs, rfl, hid, hw, rfl, rfl⟩ := wrD_inv hk
    exact wrD_val (hag id (by simp) _ hid) hw base
  · obtain ⟨id, x, sz, xs, zs, rfl, hid, hw, rfl, rfl⟩ := wrD_inv hk
    simp only [List.mem_singleton] at hp
    subst hp
    exact ⟨_, hid, by simp⟩
theorem wrD_calls {F : Fun} {f : FuncId} (hc : CSound P f F) : DCalls P f (wrD F) := by
  intro args h base v e hk hd μ w cargs R hargs
  obtain ⟨id, x, sz, xs, zs, rfl, hid, hw, rfl, rfl⟩ := wrD_inv hk
  obtain ⟨g, hg⟩ := hw.2 h hid
  obtain ⟨hgo, hcall⟩ := hc _ _ _ _ hg μ w cargs R hargs
  refine ⟨hgo, Calls.mono hcall ?_⟩
  rintro en w' ⟨cv, μ', rfl, hst, hv⟩
  have hl := (List.getElem?_eq_some_iff.1 hid).1
  have hn : Near h (h.set id (.arr sz [zs] true false)) := by
    refine ⟨by simp, fun j o ho => ?_⟩
    by_cases hj : id = j
    · subst hj
      rw [hid] at ho
      injection ho with ho
      subst ho
      right
      refine ⟨sz, [xs], [zs], true, false, rfl, by rw [List.getElem?_set_self hl], rfl, ?_⟩
      intro e he c hc
      simp only [List.mem_singleton] at he
      subst he
      exact hw.1 c hc
    · left
      rw [List.getElem?_set_ne hj]
      exact ho
  obtain ⟨h1, h2⟩ := Step.forget2 R hn hst
  exact ⟨cv, _, rfl, by simpa [apAt] using h1, plain_VR h2.imm rfl hv⟩
theorem DSound.wr {D : DTab} (DS : DSound P D) {f : Nat} {F : Fun} (hc : CSound P f F) : DSound P (updD D f (wrD F)) := DS.upd (wrD_loc F) (wrD_calls hc)
end Go.AM


namespace Go.AM
open Go.RowKit
set_option linter.unusedVariables false
set_option linter.unusedSimpArgs false
set_option linter.constructorNameAsVariable false
variable {P : Program} {μ μ' : Mu} {h h' h1 : Hp} {w w' : World}
theorem Step.move {g : List AObj} {base k sz len fr : Nat} {es : List (List AV)} {nil full : Bool} {cv : Value} (R : Rel μ h w) (S : Step μ h w μ' (h ++ g) w') (hd : h[base]? = some .dead) (hk : g[k]? = some (.arr sz es true nil)) (hp : ∀ e ∈ es, ∀ c ∈ e, plain c = true) (hv : VR μ' (h ++ g) (.sl sz (h.length + k) 0 len fr full) cv) :
    ∃ ν, Step μ h w ν (h.set base (.arr sz es true nil)) w' ∧ VR ν (h.set base (.arr sz es true nil)) (.sl sz base 0 len fr full) cv := by
  obtain ⟨S1, he⟩ := Step.forget R S
  have hbl : base < h.length := (List.getElem?_eq_some_iff.1 hd).1
  have hgk : (h ++ g)[h.length + k]? = some (.arr sz es true nil) := by
    rw [List.getElem?_append_right (by omega)]
    rw [show h.length + k - h.length = k by omega]; exact hk
  have hin : ∀ i o, h[i]? = some o → (h ++ g)[i]? = some o := fun i o hi => by
    rw [List.getElem?_append_left (List.getElem?_eq_some_iff.1 hi).1]; exact hi
  obtain ⟨ν, hν⟩ : ∃ ν, ν = (μ.mix μ').set base (μ' (h.length + k)) := ⟨_, rfl⟩
  have nb : ν base = μ' (h.length + k) := by rw [hν]; simp
  have nn : ∀ i, i ≠ base → ν i = (μ.mix μ') i := fun i hi => by rw [hν]; simp [hi]
  have gs : (h.set base (.arr sz es true nil))[base]? = some (.arr sz es true nil) := List.getElem?_set_self hbl
  have gn : ∀ i, i ≠ base → (h.set base (.arr sz es true nil))[i]? = h[i]? := fun i hi => List.getElem?_set_ne (Ne.symm hi)
  have himm : ImmLe μ' ν := fun k hk => by rw [hν]; exact he.imm k hk
  have hE : Evo (μ.mix μ') h ν (h.set base (.arr sz es true nil)) := by
    refine ⟨fun k hk => by rw [hν]; exact ⟨hk, rfl⟩, fun id o ho => ?_⟩
    by_cases hib : id = base
    · subst hib
      rw [hd] at ho
      injection ho with ho
      subst ho
      trivial
    · have hg := (gn id hib).trans ho
      have hl := nn id hib
      cases o with
      | dead => trivial
      | loop m ps asg body ts st pend => exact ⟨st, pend, hg, hl⟩
      | iter m n seen => exact ⟨seen, hg, hl⟩
      | map kvs => exact ⟨kvs, hg, hl⟩
      | arr sz es own nil => exact ⟨es, nil, hg, Nat.le_refl _, fun _ => hl⟩
  have hown : ∀ b, Own ν (h.set base (.arr sz es true nil)) b → Own μ' (h ++ g) b := by
    rintro b ⟨id, o, x, c, p1, p2, p3⟩
    by_cases hib : id = base
    · subst hib
      rw [gs] at p1
      injection p1 with p1
      subst p1
      exact ⟨h.length + k, _, x, c, hgk, rfl, by rw [← nb]; exact p3⟩
    · rw [gn id hib] at p1
      rw [nn id hib] at p3
      refine ⟨id, o, x, c, hin _ _ p1, p2, ?_⟩
      rw [(he.obj id o p1).2 (by rintro rfl; simp [isOwn] at p2)]
      exact p3
  have hmu : ∀ i o b x c, i ≠ base → (h.set base (.arr sz es true nil))[i]? = some o → o ≠ .dead → ν i = .real b x c → (h ++ g)[i]? = some o ∧ μ' i = .real b x c := fun i o b x c hi p1 p2 p3 => by
    rw [gn i hi] at p1
    rw [nn i hi] at p3
    exact ⟨hin _ _ p1, by rw [(he.obj i o p1).2 p2]; exact p3⟩
  refine ⟨ν, ⟨⟨fun id o ho => ?_, ?_, ?_, ?_⟩, ?_, S.frame, fun b hb => S.own b (hown b hb), fun k hk => S.fresh k (by rw [hν] at hk; exact hk)⟩, ?_⟩
  · by_cases hib : id = base
    · subst hib
      rw [gs] at ho
      injection ho with ho
      subst ho
      have H := S.rel.obj _ _ hgk
      refine ⟨H.1, ?_⟩
      have H2 := H.2
      rw [nb]
      cases hm : μ' (h.length + k) with
      | virt A => rw [hm] at H2; exact H2
      | real blk x c =>
        rw [hm] at H2
        obtain ⟨q1, q2, q3, q4, q5, q6⟩ := H2
        refine ⟨q1, q2, q3, q4, fun i e j a p q => ?_, q6⟩
        obtain ⟨v, r1, r2, r3⟩ := q5 i e j a p q
        exact ⟨v, r1, r2, plain_VR himm (hp e (List.mem_of_getElem? p) a (List.mem_of_getElem? q)) r3⟩
    · rw [gn id hib] at ho
      exact ORel.mono hE (nn id hib) (fun _ _ _ _ => rfl) (Nat.le_refl _) (S1.rel.obj id o ho)
  · intro i j o p b x c y d hi hj hoi hpj hmi hmj
    have fin : ∀ (j : Nat) (p : AObj) (y d x c : Nat), j ≠ base → (h.set base (.arr sz es true nil))[j]? = some p → isOwn p = true → ν j = .real b y d → ν base = .real b x c → False := fun j p y d x c hjb hj hpj hmj hmb => by
      obtain ⟨r1, r2⟩ := hmu j p b y d hjb hj (by rintro rfl; simp [isOwn] at hpj) hmj
      have := S.rel.sep (h.length + k) j _ p b x c y d hgk r1 rfl hpj (by rw [← nb]; exact hmb) r2
      rw [gn j hjb] at hj
      have := (List.getElem?_eq_some_iff.1 hj).1
      omega
    by_cases hib : i = base
    · by_cases hjb : j = base
      · rw [hib, hjb]
      · subst hib
        exact (fin j p y d x c hjb hj hpj hmj hmi).elim
    · by_cases hjb : j = base
      · subst hjb
        exact (fin i o x c y d hib hi hoi hmi hmj).elim
      · obtain ⟨r1, r2⟩ := hmu i o b x c hib hi (by rintro rfl; simp [isOwn] at hoi) hmi
        obtain ⟨r3, r4⟩ := hmu j p b y d hjb hj (by rintro rfl; simp [isOwn] at hpj) hmj
        exact S.rel.sep i j o p b x c y d r1 r3 hoi hpj r2 r4
  · intro i sz2 es2 nil2 b x c hi hmi hO
    have hib : i ≠ base := by
      rintro rfl
      rw [gs] at hi
      injection hi with hi
      injection hi with _ _ f
      cases f
    obtain ⟨r1, r2⟩ := hmu i _ b x c hib hi (by simp) hmi
    exact S.rel.apart i _ _ _ b x c r1 r2 (hown b hO)
  · intro k hk
    have hk' : μ'.imm k := by rw [hν] at hk; exact hk
    obtain ⟨p1, p2, p3⟩ := S.rel.imm k hk'
    exact ⟨p1, by rw [p2, hν]; rfl, fun hO => p3 (hown k hO)⟩
  · refine ⟨fun k hk => ?_, fun id o ho => ?_⟩
    · rw [hν]; exact S.evo.imm k hk
    · by_cases hib : id = base
      · subst hib
        rw [hd] at ho
        injection ho with ho
        subst ho
        trivial
      · have hg := (gn id hib).trans ho
        have hl : ν id = μ id := nn id hib
        cases o with
        | dead => trivial
        | loop m ps asg body ts st pend => exact ⟨st, pend, hg, hl⟩
        | iter m n seen => exact ⟨seen, hg, hl⟩
        | map kvs => exact ⟨kvs, hg, hl⟩
        | arr sz es own nil => exact ⟨es, nil, hg, Nat.le_refl _, fun _ => hl⟩
  · simp only [VR] at hv ⊢
    obtain ⟨A, c, e1, h1, h2, h3, es', own, nil', hid, hl, hc⟩ := hv
    rw [hgk] at hid
    injection hid with hid
    injection hid with f1 f2 f3 f4
    subst f2
    exact ⟨A, c, e1, h1, h2, h3, es, true, nil, gs, hl, fun q => by rw [nb]; exact hc q⟩
def News (F : Fun) (args : List AV) (x : Nat × List (List AV) × Nat × Nat × Bool) : Prop :=
  (∀ e ∈ x.2.1, ∀ c ∈ e, plain c = true) ∧ ∀ H : Hp, ∃ g k, F args H = some (.sl x.1 (H.length + k) 0 x.2.2.1 x.2.2.2.1 x.2.2.2.2, H ++ g) ∧ g[k]? = some (.arr x.1 x.2.1 true false)
def Nils (F : Fun) (args : List AV) : Prop := ∀ H : Hp, F args H = some (.s (.slice none 0 0), H)
open Classical in
noncomputable def newD (F : Fun) : DFun := fun args h base =>
  if hx : ∃ x, News F args x then some (.sl hx.choose.1 base 0 hx.choose.2.2.1 hx.choose.2.2.2.1 hx.choose.2.2.2.2, ⟨[], [.arr hx.choose.1 hx.choose.2.1 true false], []⟩)
  else if Nils F args then some (.s (.slice none 0 0), ⟨[], [], []⟩) else none
theorem News.unique {F : Fun} {args : List AV} {x y : Nat × List (List AV) × Nat × Nat × Bool} (h1 : News F args x) (h2 : News F args y) : x = y := by
  obtain ⟨g1, k1, e1, q1⟩ := h1.2 []
  obtain ⟨g2, k2, e2, q2⟩ := h2.2 []
  rw [e1] at e2
  injection e2 with e2
  injection e2 with e2 e3
  injection e2 with a1 a2 a3 a4 a5 a6
  simp only [List.nil_append, List.length_nil, Nat.zero_add] at a2 e3
  subst a2 e3
  rw [q1] at q2
  injection q2 with q2
  injection q2 with b1 b2
  obtain ⟨x1, x2, x3, x4, x5⟩ := x
  obtain ⟨y1, y2, y3, y4, y5⟩ := y
  simp only at a1 a4 a5 a6 b2
  subst a1 a4 a5 a6 b2
  rfl
theorem newD_val {F : Fun} {args : List AV} {x : Nat × List (List AV) × Nat × Nat × Bool} (hw : News F args x) (h : Hp) (base : Nat) : newD F args h base = some (.sl x.1 base 0 x.2.2.1 x.2.2.2.1 x.2.2.2.2, ⟨[], [.arr x.1 x.2.1 true false], []⟩) := by
  have hx : ∃ x, News F args x := ⟨x, hw⟩
  unfold newD
  rw [dif_pos hx, News.unique hx.choose_spec hw]
theorem newD_nil {F : Fun} {args : List AV} (hw : Nils F args) (h : Hp) (base : Nat) : newD F args h base = some (.s (.slice none 0 0), ⟨[], [], []⟩) := by
  have hx : ¬ ∃ x, News F args x := by
    rintro ⟨x, hx⟩
    obtain ⟨g, k, e, -⟩ := hx.2 []
    rw [hw []] at e
    injection e with e
    injection e with e
    cases e
  unfold newD
  rw [dif_neg hx, if_pos hw]
theorem newD_inv {F : Fun} {args : List AV} {h : Hp} {base : Nat} {v : AV} {e : Eff} (hk : newD F args h base = some (v, e)) : (∃ x, News F args x ∧ v = .sl x.1 base 0 x.2.2.1 x.2.2.2.1 x.2.2.2.2 ∧ e = ⟨[], [.arr x.1 x.2.1 true false], []⟩) ∨ (Nils F args ∧ v = .s (.slice none 0 0) ∧ e = ⟨[], [], []⟩) := by
  unfold newD at hk
  split at hk
  · rename_i hx
    simp only [Option.some.injEq, Prod.mk.injEq] at hk
    exact .inl ⟨_, hx.choose_spec, hk.1.symm, hk.2.symm⟩
  · split at hk
    · rename_i hn
      simp only [Option.some.injEq, Prod.mk.injEq] at hk
      exact .inr ⟨hn, hk.1.symm, hk.2.symm⟩
    · simp at hk
theorem newD_loc (F : Fun) : DLoc (newD F) := by
  refine ⟨fun args h base v e hk H hag => ?_, fun args h base v e hk p hp => ?_⟩
  · rcases newD_inv hk with ⟨x, hw, rfl, rfl⟩ | ⟨hn, rfl, rfl⟩
    · exact newD_val hw _ _
    · exact newD_nil hn _ _
  · rcases newD_inv hk with ⟨x, hw, rfl, rfl⟩ | ⟨hn, rfl, rfl⟩ <;> simp at hp
theorem newD_calls {F : Fun} {f : FuncId} (hc : CSound P f F) : DCalls P f (newD F) := by
  intro args h base v e hk hd μ w cargs R hargs
  rcases newD_inv hk with ⟨x, hw, rfl, rfl⟩ | ⟨hn, rfl, rfl⟩
  · obtain ⟨g, k, hF, hg⟩ := hw.2 h
    obtain ⟨hgo, hcall⟩ := hc _ _ _ _ hF μ w cargs R hargs
    refine ⟨hgo, Calls.mono hcall ?_⟩
    rintro en w' ⟨cv, μ', rfl, hst, hv⟩
    have hdead : h[base]? = some .dead := by have := hd 0 (by simp); simpa using this
    obtain ⟨ν, h1, h2⟩ := Step.move R hst hdead hg hw.1 hv
    exact ⟨cv, ν, rfl, by simpa [apAt] using h1, by simpa [apAt] using h2⟩
  · obtain ⟨hgo, hcall⟩ := hc _ _ _ _ (hn h) μ w cargs R hargs
    refine ⟨hgo, Calls.mono hcall ?_⟩
    rintro en w' ⟨cv, μ', rfl, hst, hv⟩
    exact ⟨cv, μ', rfl, by simpa [apAt] using hst, by simpa [apAt] using hv⟩
theorem DSound.new {D : DTab} (DS : DSound P D) {f : Nat} {F : Fun} (hc : CSound P f F) : DSound P (updD D f (newD F)) := DS.upd (newD_loc F) (newD_calls hc)
end Go.AM


namespace Go.AM
open Go.RowKit
open Classical in
set_option linter.unusedVariables false
variable {P : Program} {μ μ' : Mu} {h h' : Hp} {w w' : World} {β : Type} {ks : List Nat} {np nt : Nat} {ds : List Deferred} {ρ : Option Nat}
def CSoundK (P : Program) (f : FuncId) (RK : {β : Type} → (AV → Hp → Option β) → List AV → Hp → Option β) : Prop := ∀ {β : Type} (K : AV → Hp → Option β) (args : List AV) (h : Hp) (res : β), RK K args h = some res → ∀ μ w (cargs : Array Value), Rel μ h w → VRs μ h args cargs.toList →
  Goes P f ∧ Calls P f cargs w fun e w' => ∃ v h' cv μ', K v h' = some res ∧ e = .returned cv ∧ Step μ h w μ' h' w' ∧ VR μ' h' v cv
theorem leavesK_sound (R0 : Rel μ h w) {h1 : Hp} {a : Act} {t : Tm} {fn : Func} {v : AV} {h' : Hp} (hx : outsK P t h1 fn.results.toList (fun vs => some (pack vs, h1)) = some (v, h')) {Q : Ending → World → Prop} (hQ : ∀ cv μ' w', Step μ h w μ' h' w' → VR μ' h' v cv → Q (.returned cv) w') : ∀ (rs : List Nat) (μ1 : Mu) (w1 : World), Step μ h w μ1 h1 w1 → rs.Nodup →
    (∀ r ∈ rs, w.heap.size ≤ r ∧ μ1.imm r ∧ μ1.base.heap[r]? = some (.deferred (some []))) → (∀ i, VR μ1 h1 (t i) (a.eval (.tmp i))) →
    LeavesInM (FW none) 0 P fn a.tmps Q (rs.map (fun r => { target := .collected r, args := #[] })) .returning w1
  | [], μ1, w1, S, _, _, hv => by
    obtain ⟨xs, u, e, r1, r2⟩ := results_sound S.rel hv hx
    simp only [Option.some.injEq, Prod.mk.injEq] at e
    obtain ⟨rfl, rfl⟩ := e
    exact ⟨u, r1, hQ u μ1 _ S r2⟩
  | r :: rs, μ1, w1, S, hn, hr, hv => by
    obtain ⟨p1, p2, p3⟩ := hr r (by simp)
    obtain ⟨q1, μ2, q2, q3, q4⟩ := Step.take (P := P) R0 S p1 p2 p3
    rw [List.nodup_cons] at hn
    refine ⟨by simp, .inl ⟨r, _, rfl, q1, ?_⟩⟩
    exact leavesK_sound R0 hx hQ rs μ2 _ q2 hn.2 (fun r' hr' => by
      obtain ⟨s1, s2, s3⟩ := hr r' (by simp [hr'])
      have hne : r' ≠ r := fun e => hn.1 (e ▸ hr')
      exact ⟨s1, (q4 r' hne s2).1, (q4 r' hne s2).2.trans s3⟩) fun i => q3 _ _ (hv i)
theorem runK_sound {T : Tab} {D : DTab} (TS : TSound P T) (DS : DSound P D) (hm : P.follows .mixedOrders = true) {f : FuncId} {fn : Func} (hf : P.funcs[f]? = some fn) (hok : fnOk ks np fn = true) (N : Nat) : CSoundK P f (fun {β} K args h => if args.length = np then runK P T D N ks fn K args h else none) := by
  intro β K args h res hk μ w cargs R hargs
  simp only [fnOk, Bool.and_eq_true, decide_eq_true_eq, Bool.not_eq_true'] at hok
  obtain ⟨⟨hnt, hname⟩, hc⟩ := hok
  cases hb : fn.body with
  | none => rw [hb] at hc; cases hc
  | some c =>
    rw [hb] at hc
    refine ⟨⟨fn, hf, hname, by rw [hb]; rfl⟩, ?_⟩
    dsimp only at hk
    split at hk <;> try (simp at hk; done)
    rename_i hlen
    unfold runK at hk
    rw [hb] at hk
    simp only at hk
    have hsz : cargs.size = np := by rw [← hlen, hargs.length]; simp
    have hfit : Fit ks np fn.ntmps [] μ h (tm0 args) { tmps := cargs ++ Array.replicate (fn.ntmps - cargs.size) undef, defers := [] } := by
      refine ⟨by simp; omega, rfl, fun i => ?_, fun i _ => rfl, fun i _ hi => ?_⟩
      · rw [look_nil, tm0_get]
        cases ha : args[i]? with
        | none => simp [VR]
        | some x =>
          obtain ⟨u, h1, h2⟩ := hargs.get i x ha
          have hlt : i < cargs.size := by
            rw [← Array.length_toList]; exact (List.getElem?_eq_some_iff.1 h1).1
          have : (Act.mk (cargs ++ Array.replicate (fn.ntmps - cargs.size) undef) []).eval (.tmp i) = u := by
            simp only [Act.eval, Array.getD_eq_getD_getElem?, Array.getElem?_append_left hlt]
            have : cargs[i]? = some u := by simpa using h1
            rw [this]; rfl
          rw [this]
          exact h2
      · rw [tm0_get, List.getElem?_eq_none (by omega)]; rfl
    refine callsIn_wide.1 (callsIn_of_wp_marks (n := 0) (F := FW none) hf hb trivial ?_)
    refine exec_sound (ρ := none) (b0 := w.heap.size) TS DS hm c hc (.inl rfl) [] _ _ _ _ _ _ _ _ hk hfit ⟨[], rfl, List.nodup_nil, fun r hr => by cases hr⟩ (Nat.le_refl _) R ?_
    intro e t' h1 a' w' μ' ds' q1 q2 qm q3
    have key : outsK P t' h1 fn.results.toList (fun vs => K (pack vs) h1) = some res → LeavesInM (FW none) 0 P fn a'.tmps (fun e w' => ∃ v h' cv μ', K v h' = some res ∧ e = .returned cv ∧ Step μ h w μ' h' w' ∧ VR μ' h' v cv) a'.defers .returning w' := by
      intro hx
      obtain ⟨rs, m1, m2, m3⟩ := qm
      rw [outsK_eq] at hx
      obtain ⟨vs, hvs, hKv⟩ := Option.bind_eq_some_iff.1 hx
      have hx2 : outsK P t' h1 fn.results.toList (fun vs => some (pack vs, h1)) = some (pack vs, h1) := by rw [outsK_eq, hvs]; rfl
      rw [q2.defers, m1]
      exact leavesK_sound R hx2 (fun cv μ' w' s1 s2 => ⟨_, _, cv, μ', hKv, rfl, s1, s2⟩) rs μ' w' q3 m2 m3 q2.val
    cases e with
    | normal => exact key q1
    | exit i => simp [finK, Ex.on] at q1
    | ret => exact key q1
noncomputable def closedXK (shp shr : List Sh) (RK : {β : Type} → (AV → Hp → Option β) → List AV → Hp → Option β) : Fun := fun args h =>
  match cvts false h args with
  | some asl => match RK (fun v g => cvt (!plains args) g v) (nrms shp asl) [] with
    | some v' => some (nrmR shr v', h)
    | none => none
  | none => none
theorem closedXK_sound {f : FuncId} {RK : {β : Type} → (AV → Hp → Option β) → List AV → Hp → Option β} (shp shr : List Sh) (hc : CSoundK P f RK) : CSound P f (closedXK shp shr RK) := by
  intro args h v h' hk μ w cargs R hargs
  unfold closedXK at hk
  split at hk <;> try (simp at hk; done)
  rename_i asl hcv
  split at hk <;> try (simp at hk; done)
  rename_i u' hF
  simp only [Option.some.injEq, Prod.mk.injEq] at hk
  obtain ⟨rfl, rfl⟩ := hk
  cases hpl : plains args with
  | true =>
    rw [cvts_plain hpl] at hcv
    injection hcv with hcv
    subst hcv
    have R1 : Rel μ [] w := Rel.nil fun k hk => ⟨(R.imm k hk).1, (R.imm k hk).2.1⟩
    obtain ⟨hg, hcall⟩ := hc _ _ _ _ hF μ w cargs R1 (nrms_VRs shp (plain_VRs (ImmLe.refl _) hpl hargs))
    refine ⟨hg, Calls.mono hcall ?_⟩
    rintro e w' ⟨u, g, cv, μ2, hu, rfl, S, hv⟩
    rw [hpl] at hu
    have hnew : ∀ k, Own μ2 g k → w.heap.size ≤ k := fun k hk => (S.own k hk).elim (fun q => (Own.nil q).elim) id
    have him : ∀ k, μ2.imm k → μ.imm k ∨ w.heap.size ≤ k := fun k hk => (S.fresh k hk).elim .inl fun q => q.elim (fun q => (Own.nil q).elim) .inr
    obtain ⟨ξ, hξ⟩ : ∃ ξ : Mu, ξ = { loc := μ.loc, base := w', imm := fun k => μ2.imm k ∨ Own μ2 g k } := ⟨_, rfl⟩
    have hle : ImmLe μ ξ := fun k hk => by
      subst hξ
      refine ⟨.inl (S.evo.imm k hk).1, ?_⟩
      exact ((S.rel.imm k (S.evo.imm k hk).1).2.1).trans (S.evo.imm k hk).2
    obtain ⟨r1, r2, r3⟩ := Rel.over (g := g) R S.frame (ξ := ξ) (by rw [hξ]) hle (fun k hk => by
      subst hξ
      rcases hk with hk | hk
      · exact ⟨(S.rel.imm k hk).1, rfl, fun hO => by
          have := R.own_lt hO
          rcases him k hk with q | q
          · exact (R.imm k q).2.2 hO
          · omega⟩
      · exact ⟨S.rel.own_lt hk, rfl, fun hO => by have := R.own_lt hO; have := hnew k hk; omega⟩)
    have hfin := cvt_sound (ν := ξ) S.rel (fun k hk => by subst hξ; rfl) (fun k hk => by subst hξ; exact .inr hk) (fun _ k hk => by subst hξ; exact .inl hk) hv hu
    refine ⟨cv, ξ, rfl, ⟨r1, r2, r3, fun b hb => .inl ?_, fun k hk => ?_⟩, nrmR_VR (VR.lift h hfin)⟩
    · subst hξ; exact hb
    · subst hξ
      rcases hk with hk | hk
      · exact (him k hk).elim .inl fun q => .inr (.inr q)
      · exact .inr (.inr (hnew k hk))
  | false =>
    obtain ⟨μ1, hμ1⟩ : ∃ μ1 : Mu, μ1 = { loc := μ.loc, base := w, imm := fun k => μ.imm k ∨ Own μ h k } := ⟨_, rfl⟩
    have R1 : Rel μ1 [] w := Rel.nil fun k hk => by
      subst hμ1
      rcases hk with hk | hk
      · exact ⟨(R.imm k hk).1, rfl⟩
      · exact ⟨R.own_lt hk, rfl⟩
    have hargs1 : VRs μ1 [] asl cargs.toList := cvts_sound R (fun k hk => by subst hμ1; rfl) (fun k hk => by subst hμ1; exact .inr hk) (fun _ k hk => by subst hμ1; exact .inl hk) hargs hcv
    obtain ⟨hg, hcall⟩ := hc _ _ _ _ hF μ1 w cargs R1 (nrms_VRs shp hargs1)
    refine ⟨hg, Calls.mono hcall ?_⟩
    rintro e w' ⟨u, g, cv, μ2, hu, rfl, S, hv⟩
    rw [hpl] at hu
    have hnew : ∀ k, Own μ2 g k → w.heap.size ≤ k := fun k hk => (S.own k hk).elim (fun q => (Own.nil q).elim) id
    have hbl : ∀ k, k < w.heap.size → w'.heap[k]? = w.heap[k]? := fun k hk => S.frame.block k hk Own.nil
    obtain ⟨ξ, hξ⟩ : ∃ ξ : Mu, ξ = { loc := μ.loc, base := w', imm := fun k => μ.imm k ∨ Own μ2 g k } := ⟨_, rfl⟩
    have hle : ImmLe μ ξ := fun k hk => by
      subst hξ
      exact ⟨.inl hk, (hbl k (R.imm k hk).1).trans (R.imm k hk).2.1⟩
    obtain ⟨r1, r2, r3⟩ := Rel.over (g := g) R S.frame (ξ := ξ) (by rw [hξ]) hle (fun k hk => by
      subst hξ
      rcases hk with hk | hk
      · exact ⟨Nat.lt_of_lt_of_le (R.imm k hk).1 S.frame.size, rfl, (R.imm k hk).2.2⟩
      · exact ⟨S.rel.own_lt hk, rfl, fun hO => by have := R.own_lt hO; have := hnew k hk; omega⟩)
    have hfin := cvt_sound (ν := ξ) S.rel (fun k hk => by subst hξ; rfl) (fun k hk => by subst hξ; exact .inr hk) (fun hst => by simp at hst) hv hu
    refine ⟨cv, ξ, rfl, ⟨r1, r2, r3, fun b hb => .inl ?_, fun k hk => ?_⟩, nrmR_VR (VR.lift h hfin)⟩
    · subst hξ; exact hb
    · subst hξ
      rcases hk with hk | hk
      · exact .inl hk
      · exact .inr (.inr (hnew k hk))

theorem closedXK_own {shp shr : List Sh} {RK : {β : Type} → (AV → Hp → Option β) → List AV → Hp → Option β} {args asl : List AV} {v : AV} {h : Hp} (ha : cvts false h args = some asl) (hv : ∀ st, RK (fun v g => cvt st g v) (nrms shp asl) [] = some v) : closedXK shp shr RK args h = some (nrmR shr v, h) := by
  unfold closedXK
  rw [ha]
  simp only []
  rw [hv]
end Go.AM


namespace Go.AM
open Go.RowKit Go.Sort Go.Proofs
set_option linter.unusedVariables false
set_option linter.unusedSimpArgs false
variable {P : Program} {μ μ' : Mu} {h h' : Hp} {w w' : World}
abbrev RowE (k : Nat) (ok : List Value → Bool) := { e : List Value // e.length = k ∧ (∀ v ∈ e, gv v = true) ∧ ok e = true }
def encE (e : List Value) : List AV := e.map .s
def decE (k : Nat) (ok : List Value → Bool) (e : List AV) : Option (List Value) := match e.mapM cellV with | some l => if l.length = k ∧ ok l = true then some l else none | none => none
def ltF (Fc : Fun) (x y : List Value) : Bool := match Fc [.agg (encE x), .agg (encE y)] [] with | some (.s (.int .i64 n), _) => decide (n < 0) | _ => false
def SortOk (k : Nat) (ok : List Value → Bool) (Fc : Fun) : Prop := ∃ cf : RowE k ok → RowE k ok → Int, (∀ x y, Fc [.agg (encE x.1), .agg (encE y.1)] [] = some (.s (.int .i64 (cf x y)), [])) ∧ SWO (ltOf cf) ∧ ∀ x y, ltOf cf x y = false → ltOf cf y x = false → x = y
open Classical in
noncomputable def sortF (k : Nat) (ok : List Value → Bool) (g : Nat) (Fc : Fun) : Fun := fun args h =>
  match args with
  | [.sl sz id off len fr _, .fn g' []] =>
    match h[id]? with
    | some (.arr sz' es own nil) =>
      if g' = g ∧ sz = k ∧ sz' = k ∧ es.length = fr ∧ own = true ∧ off + len ≤ es.length ∧ len < 4611686018427387904 ∧ SortOk k ok Fc then
        match ((es.drop off).take len).mapM (decE k ok) with
        | some l => some (.tup [], h.set id (.arr k (es.take off ++ (l.mergeSort fun x y => !ltF Fc y x).map encE ++ es.drop (off + len)) true nil))
        | none => none
      else none
    | _ => none
  | [.s (.slice none 0 0), .fn _ _] => some (.tup [], h)
  | _ => none
theorem cellV_s {a : AV} {v : Value} (h : cellV a = some v) : a = .s v ∧ gv v = true := by
  unfold cellV at h
  split at h <;> try (simp at h; done)
  split at h <;> try (simp at h; done)
  rename_i hg
  simp only [Option.some.injEq] at h
  subst h
  exact ⟨rfl, hg⟩
theorem mapM_cellV : ∀ {e : List AV} {l : List Value}, e.mapM cellV = some l → e = encE l ∧ ∀ v ∈ l, gv v = true
  | [], l, h => by simp at h; subst h; exact ⟨rfl, by simp⟩
  | a :: e, l, h => by
    simp only [List.mapM_cons, Option.pure_def, Option.bind_eq_bind, Option.bind_eq_some_iff, Option.some.injEq] at h
    obtain ⟨v, hv, l', hl, rfl⟩ := h
    obtain ⟨rfl, hg⟩ := cellV_s hv
    obtain ⟨rfl, hgs⟩ := mapM_cellV hl
    exact ⟨rfl, fun u hu => (List.mem_cons.1 hu).elim (fun e => e ▸ hg) (hgs u)⟩
theorem decE_some {k : Nat} {ok : List Value → Bool} {e : List AV} {l : List Value} (h : decE k ok e = some l) : e = encE l ∧ l.length = k ∧ (∀ v ∈ l, gv v = true) ∧ ok l = true := by
  unfold decE at h
  split at h <;> try (simp at h; done)
  rename_i l' hl
  split at h <;> try (simp at h; done)
  rename_i hk
  simp only [Option.some.injEq] at h
  subst h
  obtain ⟨h1, h2⟩ := mapM_cellV hl
  exact ⟨h1, hk.1, h2, hk.2⟩
theorem mapM_decE {k : Nat} {ok : List Value → Bool} : ∀ {es : List (List AV)} {l : List (List Value)}, es.mapM (decE k ok) = some l → ∃ d : List (RowE k ok), l = d.map (·.1) ∧ es = d.map fun x => encE x.1
  | [], l, h => by simp at h; subst h; exact ⟨[], rfl, rfl⟩
  | e :: es, l, h => by
    simp only [List.mapM_cons, Option.pure_def, Option.bind_eq_bind, Option.bind_eq_some_iff, Option.some.injEq] at h
    obtain ⟨x, hx, l', hl, rfl⟩ := h
    obtain ⟨rfl, h1⟩ := decE_some hx
    obtain ⟨d, rfl, rfl⟩ := mapM_decE hl
    exact ⟨⟨x, h1⟩ :: d, rfl, rfl⟩
theorem VRs.encE : ∀ {e : List Value}, (∀ v ∈ e, gv v = true) → VRs μ h (encE e) e
  | [], _ => by simp [Go.AM.encE, VRs]
  | v :: e, hg => by
    simp only [Go.AM.encE, List.map_cons, VRs]
    exact ⟨v, e, rfl, by unfold VR; exact ⟨hg v (by simp), rfl⟩, VRs.encE fun u hu => hg u (by simp [hu])⟩
theorem VRs.encE_eq : ∀ {e vs : List Value}, VRs μ h (Go.AM.encE e) vs → vs = e
  | [], vs, hv => by simpa [Go.AM.encE, VRs] using hv
  | v :: e, vs, hv => by
    simp only [Go.AM.encE, List.map_cons, VRs] at hv
    obtain ⟨u, us, rfl, h1, h2⟩ := hv
    simp only [VR] at h1
    rw [h1.2, VRs.encE_eq h2]
theorem flat_val {k : Nat} : ∀ {l : List (List Value)}, (∀ e ∈ l, e.length = k) → l.flatten.length = l.length * k ∧ ∀ t, t < l.length * k → l.flatten[t]? = (l[t / k]!)[t % k]?
  | [], _ => ⟨by simp, fun t ht => by simp at ht⟩
  | e :: l, hl => by
    have he := hl e (by simp)
    obtain ⟨i1, i2⟩ := flat_val (l := l) fun x hx => hl x (by simp [hx])
    refine ⟨by simp [he, i1, Nat.add_mul]; omega, fun t ht => ?_⟩
    rw [List.flatten_cons]
    by_cases hk : t < k
    · rw [List.getElem?_append_left (by omega), Nat.div_eq_of_lt hk, Nat.mod_eq_of_lt hk]
      rfl
    · have hk0 : 0 < k := by rcases Nat.eq_zero_or_pos k with e0 | e0; · subst e0; simp at ht
                             · exact e0
      rw [List.getElem?_append_right (by omega), he, i2 (t - k) (by simp [Nat.add_mul] at ht; omega)]
      have h1 : t / k = (t - k) / k + 1 := by
        have := Nat.add_div_right (t - k) hk0
        rw [show t - k + k = t by omega] at this
        exact this
      have h2 : t % k = (t - k) % k := by
        have := Nat.add_mod_right (t - k) k
        rw [show t - k + k = t by omega] at this
        exact this
      rw [h1, h2]
      rfl
theorem flatK_list {α : Type} [Inhabited α] (enc : α → List Value) (k : Nat) (hk : ∀ x, (enc x).length = k) (d : List α) : (flatK enc k d.toArray).toList = (d.map enc).flatten := by
  obtain ⟨h1, h2⟩ := flat_val (l := d.map enc) (k := k) (by simp [hk])
  apply List.ext_getElem?
  intro t
  by_cases ht : t < d.length * k
  · rw [h2 t (by simpa using ht)]
    have hk0 : 0 < k := by rcases Nat.eq_zero_or_pos k with e0 | e0; · subst e0; simp at ht
                           · exact e0
    have hd : t / k < d.length := (Nat.div_lt_iff_lt_mul hk0).2 ht
    have hm : t % k < k := Nat.mod_lt _ hk0
    have e1 : (d.map enc)[t / k]! = enc d[t / k] := by
      rw [getElem!_pos _ _ (by simpa using hd)]; simp
    rw [e1]
    have hm' : t % k < (enc d[t / k]).length := by rw [hk]; exact hm
    rw [List.getElem?_eq_getElem hm']
    unfold flatK
    simp only [List.size_toArray, Array.toList_map, Array.toList_range, List.getElem?_map, List.getElem?_range ht, Option.map_some]
    congr 1
    rw [getElem!_pos d.toArray _ (by simpa using hd)]
    simp only [List.getElem_toArray]
    rw [getElem!_pos (enc d[t / k]) (t % k) hm']
  · rw [List.getElem?_eq_none (by rw [Array.length_toList, size_flatK]; simpa using ht), List.getElem?_eq_none (by rw [h1, List.length_map]; omega)]
theorem Step.draws (R : Rel μ h w) : ∀ n, Step μ h w μ h (Sort.ahead w n)
  | 0 => by rw [ahead_zero]; exact Step.refl R
  | n + 1 => by
    have S := Step.draws R n
    rw [← ahead_drew]
    exact S.trans (Step.drew S.rel)
theorem Step.grown : ∀ {w : World} {μ : Mu} (os : List Obj), Rel μ h w → ∃ μ', Step μ h w μ' h (grow w os.toArray)
  | w, μ, [], R => by rw [grow_empty]; exact ⟨μ, Step.refl R⟩
  | w, μ, o :: os, R => by
    obtain ⟨μ1, S1, -⟩ := Step.allocImm R o
    obtain ⟨μ2, S2⟩ := Step.grown os S1.rel
    refine ⟨μ2, ?_⟩
    have : grow w (o :: os).toArray = grow (w.alloc o) os.toArray := by
      rw [alloc_eq_grow, grow_grow]; congr 1; simp
    rw [this]
    exact S1.trans S2
theorem setRow_put {blk off k : Nat} {cur F row : Array Value} {T : TypeId} {fr : Nat × Nat} (hb : w.heap[blk]? = some (.cells cur T fr)) (hfit : off + F.size ≤ cur.size) (hrow : row = (cur.toList.take off ++ F.toList ++ cur.toList.drop (off + F.size)).toArray) : putRow id w blk off F = w.setRow blk row := by
  have hc : putCells id off F cur = row := by
    subst hrow
    apply Array.ext_getElem?
    intro i
    unfold putCells
    simp only [Array.getElem?_mapIdx, List.getElem?_toArray]
    by_cases hi : i < cur.size
    · rw [Array.getElem?_eq_getElem hi]
      simp only [Option.map_some, id]
      by_cases h1 : off ≤ i ∧ i < off + F.size
      · rw [if_pos h1, List.append_assoc, List.getElem?_append_right (by simp; omega), List.getElem?_append_left (by simp; omega)]
        simp only [List.length_take, Array.length_toList]
        rw [show i - min off cur.size = i - off by omega, Array.getElem?_toList, getElem!_pos F _ (by omega), Array.getElem?_eq_getElem (by omega)]
      · rw [if_neg h1]
        by_cases h2 : i < off
        · rw [List.append_assoc, List.getElem?_append_left (by simp; omega), List.getElem?_take, if_pos h2, Array.getElem?_toList, Array.getElem?_eq_getElem hi]
        · rw [List.getElem?_append_right (by simp; omega), List.getElem?_drop]
          simp only [List.length_append, List.length_take, Array.length_toList]
          rw [show off + F.size + (i - (min off cur.size + F.size)) = i by omega, Array.getElem?_toList, Array.getElem?_eq_getElem hi]
    · rw [Array.getElem?_eq_none (by omega), List.getElem?_eq_none (by simp; omega)]
      rfl
  unfold putRow
  rw [mapBlock_congr w blk _ (fun _ => row) fun c e f he => by
    rw [hb] at he
    injection he with he
    injection he with e1
    subst e1
    exact hc]
  unfold mapBlock World.setRow
  congr 1
theorem frame_grow {S : Nat → Prop} (F : Frame S w w') (hS : ∀ k, ¬ S k) : ∃ q os, w' = grow (w.drewN q) os := by
  refine ⟨w'.drawn - w.drawn, w'.heap.extract w.heap.size w'.heap.size, ?_⟩
  obtain ⟨f1, f2, f3, f4, f5, f6⟩ := F
  cases w with
  | mk hp tp dr os out =>
    cases w' with
    | mk hp' tp' dr' os' out' =>
      simp only [grow, World.drewN] at *
      subst f1 f2 f3
      congr 1
      · apply Array.ext_getElem?
        intro i
        by_cases hi : i < hp.size
        · rw [f6 i hi (hS i), Array.getElem?_append_left hi]
        · rw [Array.getElem?_append_right (by omega), Array.getElem?_extract]
          split
          · congr 1; omega
          · rw [Array.getElem?_eq_none (by omega)]
      · omega
theorem cmp_lays {k g : Nat} {ok : List Value → Bool} {Fc : Fun} (hc : CSound P g Fc) {cf : RowE k ok → RowE k ok → Int} (hcf : ∀ x y, Fc [.agg (encE x.1), .agg (encE y.1)] [] = some (.s (.int .i64 (cf x y)), [])) [Inhabited (RowE k ok)] (blk off size : Nat) (w : World) : CmpLays P g #[] (fun x : RowE k ok => x.1) k cf blk off size w := by
  intro m os dk hs x y
  obtain ⟨W, hW⟩ : ∃ W, W = sortWorldK (fun x : RowE k ok => x.1) k w blk off m dk os := ⟨_, rfl⟩
  rw [← hW]
  have R : Rel { loc := fun _ => .real 0 0 0, base := W, imm := fun _ => False } [] W := Rel.nil fun k hk => hk.elim
  obtain ⟨-, hcall⟩ := hc _ _ _ _ (hcf x y) _ W (#[.agg x.1.toArray, .agg y.1.toArray] ++ #[]) R (by
    simp only [VRs, VR]
    exact ⟨_, _, rfl, ⟨_, rfl, VRs.encE x.2.2.1⟩, _, _, rfl, ⟨_, rfl, VRs.encE y.2.2.1⟩, rfl⟩)
  refine hcall.mono ?_
  rintro e w' ⟨cv, μ2, rfl, S, hv⟩
  simp only [VR] at hv
  obtain ⟨-, rfl⟩ := hv
  exact ⟨rfl, frame_grow S.frame fun k hk => Own.nil hk⟩
theorem sortF_sound {ρ : Go.Shelf.Ren} {k g : Nat} {ok : List Value → Bool} {Fc : Fun} (L : SlLaysF0.n6 P ρ) (aE : ∀ w, (isAgg (ρ.t 24)).run P w = .ok true w) (zE : ∀ w, (Go.sizeOf (ρ.t 24)).run P w = .ok k w) (hgo : Goes P (ρ.f 6)) (hk0 : 0 < k) (hc : CSound P g Fc) (hg : Goes P g) : CSound P (ρ.f 6) (sortF k ok g Fc) := by
  intro args h v h' hk μ w cargs R hargs
  refine ⟨hgo, ?_⟩
  unfold sortF at hk
  split at hk <;> try (simp at hk; done)
  · rename_i sz id off len fr full g'
    split at hk <;> try (simp at hk; done)
    rename_i sz' es own nil ho
    split at hk <;> try (simp at hk; done)
    rename_i hcond
    obtain ⟨rfl, rfl, rfl, hfr, rfl, hle, hlen, cf, hcf, hswo, hanti⟩ := hcond
    split at hk <;> try (simp at hk; done)
    rename_i l hl
    simp only [Option.some.injEq, Prod.mk.injEq] at hk
    obtain ⟨rfl, rfl⟩ := hk
    obtain ⟨d, rfl, hd⟩ := mapM_decE hl
    have hdl : d.length = len := by
      have := congrArg List.length hd
      rw [List.length_map, List.length_take, List.length_drop] at this
      omega
    have elt : ∀ x y : RowE sz' ok, ltF Fc x.1 y.1 = ltOf cf x y := fun x y => by
      unfold ltF ltOf
      rw [hcf x y]
    have esort : (d.map (·.1)).mergeSort (fun x y => !ltF Fc y x) = (d.mergeSort fun x y => !ltOf cf y x).map (·.1) := by
      rw [List.map_mergeSort]
      intro a _ b _
      rw [elt]
    rw [esort, List.map_map]
    obtain ⟨d2, hd2⟩ : ∃ d2, d2 = d.mergeSort fun x y => !ltOf cf y x := ⟨_, rfl⟩
    have hd2l : d2.length = len := by rw [hd2, List.length_mergeSort]; exact hdl
    rw [← hd2]
    have e0 : cargs.toList = cargs.toList := rfl
    simp only [VRs] at hargs
    obtain ⟨v1, vs1, hq1, hv1, v2, vs2, rfl, hv2, rfl⟩ := hargs
    have hcargs : cargs = #[v1, v2] := by apply Array.ext'; simpa using hq1
    subst hcargs
    simp only [VR] at hv1 hv2
    obtain ⟨caps, rfl, hcaps⟩ := hv2
    have hcaps' : caps = #[] := by
      simp only [VRs] at hcaps
      apply Array.ext'; simpa using hcaps
    subst hcaps'
    obtain ⟨A, c, rfl, hlc, hA, -, es2, own', nil', ho', -, hq⟩ := hv1
    rw [ho] at ho'
    injection ho' with ho'
    injection ho' with e1 e2 e3 e4
    subst e2 e3 e4
    have hsl := hq hfr.symm
    by_cases h0 : len = 0
    · subst h0
      have hd0 : d2 = [] := List.eq_nil_of_length_eq_zero hd2l
      have e5 : h.set id (.arr sz' (es.take off ++ d2.map ((encE ·) ∘ (·.1)) ++ es.drop (off + 0)) true nil) = h := by
        rw [hd0]
        simp only [List.map_nil, List.append_nil, Nat.add_zero, List.take_append_drop]
        exact set_same ho
      rw [e5]
      refine (AnyF.slices_SortFunc_none L A c _ w).mono ?_
      rintro e w' ⟨rfl, rfl⟩
      exact ⟨_, μ, rfl, Step.refl R, by simp [VR, VRs]⟩
    · unfold SlOk at hsl
      split at hsl
      · rename_i blk o cap hmu
        obtain ⟨a', rfl, hcap, hne⟩ := hsl
        have ha' := hne (by omega)
        have hO := R.obj _ _ ho
        obtain ⟨cur, T, hbk, hcur, rfl, hlec, hcapm, h1, hr⟩ := ORel.own_flat hO hmu
        rw [Nat.zero_add] at ha'
        subst ha'
        obtain ⟨vs, g1, g2, g3, g4⟩ := arr_cells R ho hmu off len hle
        rw [Nat.zero_add] at g4
        haveI : Inhabited (RowE sz' ok) := ⟨d[0]'(by omega)⟩
        have hlenE : ∀ x : RowE sz' ok, x.1.length = sz' := fun x => x.2.1
        have hflat : ((es.drop off).take len).flatten = encE (d.map (·.1)).flatten := by
          rw [hd]
          unfold encE
          rw [List.map_flatten, List.map_map]
          rfl
        rw [hflat] at g1
        have hvs := VRs.encE_eq g1
        subst hvs
        have hfk := flatK_list (fun x : RowE sz' ok => x.1) sz' hlenE d
        have hH : HoldsK (fun x : RowE sz' ok => x.1) sz' w blk (off * sz') d.toArray := by
          intro j hj
          have hj2 : j < (flatK (fun x : RowE sz' ok => x.1) sz' d.toArray).toList.length := by simpa using hj
          refine ⟨g4 j _ ?_, ?_⟩
          · rw [← hfk, List.getElem?_eq_getElem hj2, getElem!_pos (flatK (fun x : RowE sz' ok => x.1) sz' d.toArray) j hj]
            rfl
          · simp only [World.frozen?, hbk]
            simp
        have hblk : blk < w.heap.size := (Array.getElem?_eq_some_iff.1 hbk).1
        have key := AnyQ.slices_SortFunc_total L sz' aE zE (fun x : RowE sz' ok => x.1) hlenE (fun x v hv => oneCell_gv (x.2.2.1 v hv)) cf hswo g' #[] blk (off * sz') c d.toArray w (fun a W => hg.run a W) (cmp_lays hc hcf blk (off * sz') _ w) hH hblk (by simp; omega) hanti
        have hds : d.toArray.size = len := by simpa using hdl
        rw [hds] at key
        refine key.mono ?_
        rintro e w' ⟨rfl, n, os, rfl⟩
        simp only []
        rw [← hd2]
        have S1 := Step.draws R n
        have hS : Sized sz' (d2.map ((encE ·) ∘ (·.1))) := by
          intro y hy
          obtain ⟨x, -, rfl⟩ := List.mem_map.1 hy
          refine ⟨by simp [encE, hlenE], fun c hc => ?_⟩
          simp only [Function.comp, encE, List.mem_map] at hc
          obtain ⟨u, hu, rfl⟩ := hc
          exact x.2.2.1 u hu
        have hgv : ∀ v ∈ (d2.map (·.1)).flatten, gv v = true := by
          intro v hv
          obtain ⟨l, hl, hvl⟩ := List.mem_flatten.1 hv
          obtain ⟨x, -, rfl⟩ := List.mem_map.1 hl
          exact x.2.2.1 v hvl
        have hfl2 : (d2.map ((encE ·) ∘ (·.1))).flatten = encE (d2.map (·.1)).flatten := by
          unfold encE
          rw [List.map_flatten, List.map_map]
        have hvr : VRs μ h (d2.map ((encE ·) ∘ (·.1))).flatten (d2.map (·.1)).flatten := by rw [hfl2]; exact VRs.encE hgv
        obtain ⟨cur', T', row, q1, q2, q3, q4⟩ := seg_put (P := P) (off := off) S1.rel ho hmu hS hvr (fun v hv => oneCell_gv (hgv v hv)) (by simpa [hd2l] using hle)
        rw [List.length_map, hd2l] at q4
        have hfk2 := flatK_list (fun x : RowE sz' ok => x.1) sz' hlenE d2
        have hF : (flatK (fun x : RowE sz' ok => x.1) sz' d2.toArray).size = (d2.map (·.1)).flatten.length := by
          rw [← hfk2]; simp
        have hcc : cur' = cur := by
          have : (Sort.ahead w n).heap[blk]? = w.heap[blk]? := rfl
          rw [this, hbk] at q1
          injection q1 with q1
          injection q1 with q1
          exact q1.symm
        subst hcc
        have hput : putRowK (fun x : RowE sz' ok => x.1) sz' (Sort.ahead w n) blk (off * sz') d2.toArray = (Sort.ahead w n).setRow blk row := by
          unfold putRowK
          refine setRow_put (k := sz') q1 ?_ (by rw [q2, hF, hfk2])
          rw [hF, (flat_val (l := d2.map (·.1)) (k := sz') (fun e he => by obtain ⟨x, -, rfl⟩ := List.mem_map.1 he; exact hlenE x)).1, List.length_map, hd2l, hcur, ← Nat.add_mul]
          exact Nat.le_trans (Nat.mul_le_mul_right _ hle) (Nat.mul_le_mul_right _ hlec)
        unfold sortWorldK
        rw [hput]
        obtain ⟨μ3, S3⟩ := Step.grown os.toList q4.rel
        exact ⟨_, μ3, rfl, (S1.trans q4).trans (by simpa using S3), by simp [VR, VRs]⟩
      · rename_i A' hmu
        obtain ⟨rfl, rfl, -⟩ := hsl
        have hz := (R.obj _ _ ho).2
        rw [hmu] at hz
        have := hz.1
        subst this
        simp at hle
        omega
  · rename_i f caps
    simp only [Option.some.injEq, Prod.mk.injEq] at hk
    obtain ⟨rfl, rfl⟩ := hk
    simp only [VRs] at hargs
    obtain ⟨v1, vs1, hq1, hv1, v2, vs2, rfl, hv2, rfl⟩ := hargs
    have hcargs : cargs = #[v1, v2] := by apply Array.ext'; simpa using hq1
    subst hcargs
    simp only [VR] at hv1
    obtain ⟨-, rfl⟩ := hv1
    refine (AnyF.slices_SortFunc_none L none 0 v2 w).mono ?_
    rintro e w' ⟨rfl, rfl⟩
    exact ⟨_, μ, rfl, Step.refl R, by simp [VR, VRs]⟩
theorem sortF_val {k g : Nat} {ok : List Value → Bool} {Fc : Fun} (hok : SortOk k ok Fc) {id off len fr : Nat} {full : Bool} {h : Hp} {es : List (List AV)} {nil : Bool} {l : List (List Value)} (ho : h[id]? = some (.arr k es true nil)) (hfr : es.length = fr) (hle : off + len ≤ es.length) (hlen : len < 4611686018427387904) (hl : ((es.drop off).take len).mapM (decE k ok) = some l) :
    sortF k ok g Fc [.sl k id off len fr full, .fn g []] h = some (.tup [], h.set id (.arr k (es.take off ++ (l.mergeSort fun x y => !ltF Fc y x).map encE ++ es.drop (off + len)) true nil)) := by
  unfold sortF
  simp only [ho]
  rw [if_pos ⟨rfl, rfl, rfl, hfr, rfl, hle, hlen, hok⟩, hl]
end Go.AM
namespace Go.AM
open Go.RowKit Go.Sort Go.Proofs
def isI : Value → Bool
  | .int .i64 _ => true
  | _ => false
def okI (e : List Value) : Bool := e.all isI
def unI : Value → Int
  | .int _ n => n
  | _ => 0
def encZ (l : List Int) : List AV := l.map fun n => .s (.int .i64 n)
def valZ (l : List Int) : List Value := l.map fun n => .int .i64 n
theorem encE_valZ (l : List Int) : encE (valZ l) = encZ l := by simp [encE, valZ, encZ]
theorem okI_val : ∀ {e : List Value}, okI e = true → e = valZ (e.map unI)
  | [], _ => rfl
  | v :: e, h => by
    simp only [okI, List.all_cons, Bool.and_eq_true] at h
    have ih := okI_val (e := e) h.2
    cases v <;> simp [isI] at h
    rename_i kd n
    cases kd <;> simp at h
    simp only [List.map_cons, valZ, unI] at ih ⊢
    rw [← ih]
theorem okI_valZ (l : List Int) : okI (valZ l) = true := by simp [okI, valZ, isI]
def lexZ : List Int → List Int → Int
  | a :: as_, b :: bs => if a < b then -1 else if b < a then 1 else lexZ as_ bs
  | _, _ => 0
def ltZ (a b : List Int) : Bool := decide (lexZ a b < 0)
theorem lexZ_self : ∀ a, lexZ a a = 0
  | [] => rfl
  | a :: l => by simp [lexZ, lexZ_self l]
theorem ltZ_cons (a b : Int) (l r : List Int) : ltZ (a :: l) (b :: r) = (decide (a < b) || (decide (a = b) && ltZ l r)) := by
  unfold ltZ
  simp only [lexZ]
  by_cases h1 : a < b
  · simp [h1]
  · by_cases h2 : b < a
    · have : a ≠ b := by omega
      simp [h1, h2, this]
    · have : a = b := by omega
      simp [this]
theorem ltZ_irrefl (a : List Int) : ltZ a a = false := by simp [ltZ, lexZ_self]
theorem ltZ_trans : ∀ {n : Nat} {a b c : List Int}, a.length = n → b.length = n → c.length = n → ltZ a b = true → ltZ b c = true → ltZ a c = true
  | 0, a, b, c, ha, hb, hc, h1, h2 => by
    have : a = [] := List.eq_nil_of_length_eq_zero ha
    subst this
    cases b <;> simp [ltZ, lexZ] at h1
  | n + 1, [], b, c, ha, hb, hc, h1, h2 => by simp at ha
  | n + 1, a :: l, [], c, ha, hb, hc, h1, h2 => by simp at hb
  | n + 1, a :: l, b :: r, [], ha, hb, hc, h1, h2 => by simp at hc
  | n + 1, a :: l, b :: r, c :: s, ha, hb, hc, h1, h2 => by
    rw [ltZ_cons] at h1 h2 ⊢
    simp only [Bool.or_eq_true, Bool.and_eq_true, decide_eq_true_eq] at h1 h2 ⊢
    rcases h1 with h1 | ⟨h1, h1'⟩ <;> rcases h2 with h2 | ⟨h2, h2'⟩
    · exact .inl (by omega)
    · exact .inl (by omega)
    · exact .inl (by omega)
    · exact .inr ⟨by omega, ltZ_trans (n := n) (by simpa using ha) (by simpa using hb) (by simpa using hc) h1' h2'⟩
theorem ltZ_total : ∀ {n : Nat} {a b : List Int}, a.length = n → b.length = n → ltZ a b = false → ltZ b a = false → a = b
  | 0, a, b, ha, hb, _, _ => by rw [List.eq_nil_of_length_eq_zero ha, List.eq_nil_of_length_eq_zero hb]
  | n + 1, [], b, ha, hb, _, _ => by simp at ha
  | n + 1, a :: l, [], ha, hb, _, _ => by simp at hb
  | n + 1, a :: l, b :: r, ha, hb, h1, h2 => by
    rw [ltZ_cons] at h1 h2
    simp only [Bool.or_eq_false_iff, Bool.and_eq_false_iff, decide_eq_false_iff_not] at h1 h2
    have e : a = b := by omega
    subst e
    rw [ltZ_total (n := n) (a := l) (b := r) (by simpa using ha) (by simpa using hb) (by simpa using h1.2) (by simpa using h2.2)]
theorem sortOk_lex {k : Nat} {Fc : Fun} (hf : ∀ x y : List Int, x.length = k → y.length = k → Fc [.agg (encZ x), .agg (encZ y)] [] = some (.s (.int .i64 (lexZ x y)), [])) :
    SortOk k okI Fc ∧ ∀ x y : List Int, x.length = k → y.length = k → ltF Fc (valZ x) (valZ y) = ltZ x y := by
  constructor
  · refine ⟨fun x y => lexZ (x.1.map unI) (y.1.map unI), fun x y => ?_, ⟨fun x => ?_, fun x y z h1 h2 => ?_, fun x y z h1 h2 => ?_⟩, fun x y h1 h2 => ?_⟩
    · have := hf (x.1.map unI) (y.1.map unI) (by simp [x.2.1]) (by simp [y.2.1])
      rw [← encE_valZ, ← encE_valZ, ← okI_val (e := x.1) x.2.2.2, ← okI_val (e := y.1) y.2.2.2] at this
      exact this
    · show ltZ _ _ = false
      exact ltZ_irrefl _
    · exact ltZ_trans (n := k) (a := x.1.map unI) (b := y.1.map unI) (c := z.1.map unI) (by simp [x.2.1]) (by simp [y.2.1]) (by simp [z.2.1]) h1 h2
    · have hx : (x.1.map unI).length = k := by simp [x.2.1]
      have hy : (y.1.map unI).length = k := by simp [y.2.1]
      have hz : (z.1.map unI).length = k := by simp [z.2.1]
      change ltZ (x.1.map unI) (y.1.map unI) = false at h1
      change ltZ (y.1.map unI) (z.1.map unI) = false at h2
      show ltZ (x.1.map unI) (z.1.map unI) = false
      cases h3 : ltZ (x.1.map unI) (z.1.map unI) with
      | false => rfl
      | true =>
        cases h4 : ltZ (z.1.map unI) (y.1.map unI) with
        | true => rw [ltZ_trans hx hz hy h3 h4] at h1; cases h1
        | false =>
          have := ltZ_total hy hz h2 h4
          rw [this] at h1
          rw [h1] at h3
          cases h3
    · have := ltZ_total (n := k) (a := x.1.map unI) (b := y.1.map unI) (by simp [x.2.1]) (by simp [y.2.1]) h1 h2
      apply Subtype.ext
      exact (okI_val (e := x.1) x.2.2.2).trans ((congrArg valZ this).trans (okI_val (e := y.1) y.2.2.2).symm)
  · intro x y hx hy
    unfold ltF ltZ
    rw [encE_valZ, encE_valZ, hf x y hx hy]
theorem decE_encZ {k : Nat} {l : List Int} (hl : l.length = k) : decE k okI (encZ l) = some (valZ l) := by
  have h1 : (encZ l).mapM cellV = some (valZ l) := by
    clear hl
    induction l with
    | nil => rfl
    | cons n l ih =>
      simp only [encZ, valZ, List.map_cons, List.mapM_cons] at ih ⊢
      rw [ih]
      rfl
  unfold decE
  rw [h1]
  simp [valZ, hl]
  exact okI_valZ l
theorem mapM_decZ {k : Nat} : ∀ {l : List (List Int)}, (∀ x ∈ l, x.length = k) → (l.map encZ).mapM (decE k okI) = some (l.map valZ)
  | [], _ => rfl
  | x :: l, h => by
    simp only [List.map_cons, List.mapM_cons]
    rw [decE_encZ (h x (by simp)), mapM_decZ fun y hy => h y (by simp [hy])]
    rfl
theorem sortZ_val {k g : Nat} {Fc : Fun} (hf : ∀ x y : List Int, x.length = k → y.length = k → Fc [.agg (encZ x), .agg (encZ y)] [] = some (.s (.int .i64 (lexZ x y)), [])) {id off len fr : Nat} {full : Bool} {h : Hp} {es : List (List AV)} {nil : Bool} {l : List (List Int)}
    (ho : h[id]? = some (.arr k es true nil)) (hfr : es.length = fr) (hle : off + len ≤ es.length) (hlen : len < 4611686018427387904) (hs : ∀ x ∈ l, x.length = k) (hl : (es.drop off).take len = l.map encZ) :
    sortF k okI g Fc [.sl k id off len fr full, .fn g []] h = some (.tup [], h.set id (.arr k (es.take off ++ (l.mergeSort fun x y => !ltZ y x).map encZ ++ es.drop (off + len)) true nil)) := by
  obtain ⟨h1, h2⟩ := sortOk_lex hf
  rw [sortF_val (g := g) (l := l.map valZ) h1 ho hfr hle hlen (by rw [hl]; exact mapM_decZ hs)]
  have e : (l.map valZ).mergeSort (fun x y => !ltF Fc y x) = (l.mergeSort fun x y => !ltZ y x).map valZ := by
    rw [List.map_mergeSort]
    intro a ha b hb
    rw [h2 b a (hs b hb) (hs a ha)]
  rw [e, List.map_map]
  have : encE ∘ valZ = encZ := by funext x; exact encE_valZ x
  rw [this]
end Go.AM


namespace Go.Proofs
open Go.Shelf
def Try.sort62_ren : Go.Shelf.Ren := ⟨fun | 6 => 62 | 15 => 75 | 14 => 74 | 28 => 89 | 29 => 90 | 20 => 81 | 21 => 82 | 22 => 83 | 23 => 84 | 24 => 85 | 25 => 86 | 26 => 87 | 27 => 88 | 46 => 92 | 47 => 93 | 48 => 94 | 49 => 95 | 50 => 96 | 57 => 97 | n => n, fun | 22 => 37 | 24 => 31 | 25 => 87 | 3 => 3 | 39 => 97 | 0 => 0 | 53 => 114 | 55 => 116 | 4 => 4 | 46 => 108 | 45 => 107 | 50 => 79 | 5 => 5 | 9 => 9 | 66 => 117 | 70 => 121 | 76 => 123 | 77 => 124 | n => n, fun | n => n⟩
theorem Try.sort62 : Go.Proofs.SlLaysF0.n6 Try.prog Try.sort62_ren := {
  mixed := by kernel_rfl
  f6 := ⟨Try.f62.name, by decide, Try.func62.trans (congrArg some (by kernel_rfl))⟩
  f14 := ⟨Try.f74.name, by decide, Try.func74.trans (congrArg some (by kernel_rfl))⟩
  f15 := Try.func75.trans (congrArg some (by kernel_rfl))
  f20 := ⟨Try.f81.name, by decide, Try.func81.trans (congrArg some (by kernel_rfl))⟩
  f21 := ⟨Try.f82.name, by decide, Try.func82.trans (congrArg some (by kernel_rfl))⟩
  f22 := ⟨Try.f83.name, by decide, Try.func83.trans (congrArg some (by kernel_rfl))⟩
  f23 := ⟨Try.f84.name, by decide, Try.func84.trans (congrArg some (by kernel_rfl))⟩
  f24 := ⟨Try.f85.name, by decide, Try.func85.trans (congrArg some (by kernel_rfl))⟩
  f25 := ⟨Try.f86.name, by decide, Try.func86.trans (congrArg some (by kernel_rfl))⟩
  f26 := ⟨Try.f87.name, by decide, Try.func87.trans (congrArg some (by kernel_rfl))⟩
  f27 := ⟨Try.f88.name, by decide, Try.func88.trans (congrArg some (by kernel_rfl))⟩
  f28 := Try.func89.trans (congrArg some (by kernel_rfl))
  f29 := Try.func90.trans (congrArg some (by kernel_rfl))
  f46 := ⟨Try.f92.name, by decide, Try.func92.trans (congrArg some (by kernel_rfl))⟩
  f47 := Try.func93.trans (congrArg some (by kernel_rfl))
  f48 := Try.func94.trans (congrArg some (by kernel_rfl))
  f49 := ⟨Try.f95.name, by decide, Try.func95.trans (congrArg some (by kernel_rfl))⟩
  f50 := ⟨Try.f96.name, by decide, Try.func96.trans (congrArg some (by kernel_rfl))⟩
  f57 := ⟨Try.f97.name, by decide, Try.func97.trans (congrArg some (by kernel_rfl))⟩
  t0 := Try.underlying0
  a0 := Try.isAgg0
  z0 := Try.sizeOf0
  v0 := Try.zeroValue0
  t3 := Try.underlying3
  a3 := Try.isAgg3
  z3 := Try.sizeOf3
  v3 := Try.zeroValue3
  t4 := Try.underlying4
  a4 := Try.isAgg4
  z4 := Try.sizeOf4
  v4 := Try.zeroValue4
  t5 := Try.underlying5
  a5 := Try.isAgg5
  z5 := Try.sizeOf5
  v5 := Try.zeroValue5
  t9 := Try.underlying9
  a9 := Try.isAgg9
  z9 := Try.sizeOf9
  v9 := Try.zeroValue9
  t22 := Try.underlying37
  a22 := Try.isAgg37
  z22 := Try.sizeOf37
  v22 := Try.zeroValue37
  t25 := Try.underlying87
  a25 := Try.isAgg87
  z25 := Try.sizeOf87
  v25 := Try.zeroValue87
  t39 := Try.underlying97
  a39 := Try.isAgg97
  z39 := Try.sizeOf97
  v39 := Try.zeroValue97
  t45 := Try.underlying107
  a45 := Try.isAgg107
  z45 := Try.sizeOf107
  v45 := Try.zeroValue107
  t46 := Try.underlying108
  a46 := Try.isAgg108
  z46 := Try.sizeOf108
  v46 := Try.zeroValue108
  t50 := Try.underlying79
  a50 := Try.isAgg79
  z50 := Try.sizeOf79
  v50 := Try.zeroValue79
  t53 := Try.underlying114
  a53 := Try.isAgg114
  z53 := Try.sizeOf114
  v53 := Try.zeroValue114
  t55 := Try.underlying116
  a55 := Try.isAgg116
  z55 := Try.sizeOf116
  v55 := Try.zeroValue116
  t66 := Try.underlying117
  a66 := Try.isAgg117
  z66 := Try.sizeOf117
  v66 := Try.zeroValue117
  t70 := Try.underlying121
  a70 := Try.isAgg121
  z70 := Try.sizeOf121
  v70 := Try.zeroValue121
  t76 := Try.underlying123
  a76 := Try.isAgg123
  z76 := Try.sizeOf123
  v76 := Try.zeroValue123
  t77 := Try.underlying124
  a77 := Try.isAgg124
  z77 := Try.sizeOf124
  v77 := Try.zeroValue124 }
end Go.Proofs

