import Derived.Test.YtlnjnfbdcdmacaaAmLocal
namespace Go.AM
open Go.RowKit
set_option linter.unusedVariables false
set_option linter.unusedSimpArgs false
variable {P : Program} {μ μ' : Mu} {h h' : Hp} {w w' : World} {β : Type}
/-- A function with a body, that is entered. -/
def Goes (P : Program) (f : FuncId) : Prop := ∃ fn, P.funcs[f]? = some fn ∧ (fn.name == "runtime.NumGoroutine") = false ∧ fn.body.isNone = false
theorem Goes.run {f : FuncId} (hg : Goes P f) (args : Array Value) (w : World) : (callFunc f args).run P w = .ok (.enter f args) w := by
  obtain ⟨fn, h1, h2, h3⟩ := hg
  have h2' : fn.name ≠ "runtime.NumGoroutine" := by simpa using h2
  have h3' : fn.body ≠ none := by intro e; rw [e] at h3; simp at h3
  simp [callFunc, Sem.run_bind, program, Sem.run, h1, h2', h3']
/-- What is behind a call. -/
def CSound (P : Program) (f : FuncId) (F : Fun) : Prop := ∀ args h v h', F args h = some (v, h') → ∀ μ w (cargs : Array Value), Rel μ h w → VRs μ h args cargs.toList →
  Goes P f ∧ Calls P f cargs w fun e w' => ∃ cv μ', e = .returned cv ∧ Step μ h w μ' h' w' ∧ VR μ' h' v cv
def TSound (P : Program) (T : Tab) : Prop := ∀ f F, T f = some F → CSound P f F
/-- The same where the order is drawn. -/
def DCalls (P : Program) (f : FuncId) (F : DFun) : Prop := ∀ args h base v e, F args h base = some (v, e) → (∀ j, j < e.news.length → h[base + j]? = some .dead) → ∀ μ w (cargs : Array Value), Rel μ h w → VRs μ h args cargs.toList →
  Goes P f ∧ Calls P f cargs w fun en w' => ∃ cv μ', en = .returned cv ∧ Step μ h w μ' (apAt h base e) w' ∧ VR μ' (apAt h base e) v cv
structure DSound (P : Program) (D : DTab) : Prop where
  loc : ∀ f F, D f = some F → DLoc F
  calls : ∀ f F, D f = some F → DCalls P f F

theorem step_get_dead {n : Nat} {i : Nat} {o : AObj} (hi : h[i]? = some o) : (h ++ List.replicate n AObj.dead)[i]? = some o := by
  rw [List.getElem?_append_left (List.getElem?_eq_some_iff.1 hi).1]; exact hi
theorem agree_pad (ids : List Nat) (n : Nat) : Agree ids h (h ++ List.replicate n AObj.dead) := fun id _ x hx => step_get_dead hx
theorem puts_pad (ext : List AObj) : ∀ (ps : List (Nat × AObj)) (h : Hp), (∀ p ∈ ps, p.1 < h.length) →
    ps.foldl (fun h p => h.set p.1 p.2) (h ++ ext) = ps.foldl (fun h p => h.set p.1 p.2) h ++ ext
  | [], h, _ => rfl
  | p :: ps, h, hp => by
    simp only [List.foldl_cons]
    rw [List.set_append_left _ _ (hp p (by simp))]
    exact puts_pad ext ps _ (fun q hq => by rw [List.length_set]; exact hp q (by simp [hq]))
theorem puts_length : ∀ (ps : List (Nat × AObj)) (h : Hp), (ps.foldl (fun h p => h.set p.1 p.2) h).length = h.length
  | [], h => rfl
  | p :: ps, h => by simp only [List.foldl_cons]; rw [puts_length ps]; simp
theorem news_pad : ∀ (ns : List AObj) (h : Hp) (m : Nat), (ns.zipIdx h.length).foldl (fun h p => h.set p.2 p.1) (h ++ List.replicate (ns.length + m) AObj.dead) = h ++ ns ++ List.replicate m AObj.dead
  | [], h, m => by simp
  | o :: ns, h, m => by
    simp only [List.zipIdx_cons, List.foldl_cons]
    rw [List.set_append_right _ _ (Nat.le_refl _)]
    simp only [Nat.sub_self, List.length_cons]
    rw [show ns.length + 1 + m = (ns.length + m) + 1 by omega, List.replicate_succ, List.set_cons_zero]
    have := news_pad ns (h ++ [o]) m
    simp only [List.length_append, List.length_cons, List.length_nil, Nat.zero_add, List.append_assoc, List.singleton_append] at this ⊢
    rw [this]
theorem apAt_pad {e : Eff} (hl : ∀ p ∈ e.puts, p.1 < h.length) (m : Nat) : apAt (h ++ List.replicate (e.news.length + m) .dead) h.length e = ap h e ++ List.replicate m .dead := by
  unfold apAt ap
  rw [puts_pad _ _ _ hl]
  have := news_pad e.news (e.puts.foldl (fun h p => h.set p.1 p.2) h) m
  rw [puts_length] at this
  exact this
theorem step_lt {i : Nat} {x : AObj} (hi : h[i]? = some x) : i < h.length := (List.getElem?_eq_some_iff.1 hi).1

/-! ### One operation -/
section
variable {n : Nat} {Q : Exit → Act → World → Prop} {K : Act → World → Prop} {a : Act} {o : Oper}
theorem wide_about {o : Oper} : ∀ f, o.about P w a.eval = some f → Fence.wide.fn f := fun _ _ => trivial
theorem op_out {av : AV} {h1 : Hp} (ho : Out P (execOp a.eval o) μ h w av h1) (hK : ∀ μ' w' u, Step μ h w μ' h1 w' → VR μ' h1 av u → K (a.put o.dst u) w') : o.wpIn Fence.wide n P a w K Q := by
  obtain ⟨μ', w', hst, ⟨v, hv, hr⟩ | ⟨hs, rfl⟩⟩ := ho
  · refine ⟨wide_about, ?_⟩
    have : (o.semAt Fence.wide.round a.eval).run P w = .ok (.value v) w' := hv
    rw [this]
    exact hK _ _ _ hst hr
  · refine ⟨wide_about, ?_⟩
    have : (o.semAt Fence.wide.round a.eval).run P w = .ok .skip w' := hs
    rw [this]
    exact hK _ _ _ hst (by simp [VR])
theorem op_enter {f : FuncId} {args : Array Value} {Rr : Ending → World → Prop} (hrun : (execOp a.eval o).run P w = .ok (.enter f args) w) (hc : Calls P f args w Rr)
    (hK : ∀ e w', Rr e w' → ∃ cv, e = .returned cv ∧ K (a.put o.dst cv) w') : o.wpIn Fence.wide n P a w K Q := by
  refine ⟨wide_about, ?_⟩
  have : (o.semAt Fence.wide.round a.eval).run P w = .ok (.enter f args) w := hrun
  rw [this]
  refine ⟨fun h => by simp [Fence.wide] at h, (callsIn_wide.2 hc).mono fun e w' hr => ?_⟩
  obtain ⟨cv, rfl, hk⟩ := hK e w' hr
  exact hk
theorem call_enter {c : Call} {f : FuncId} {caps : Array Value} (ho : o.op = .call c) {x : Operand} (hc : c.callee = .value x) (hx : a.eval x = .func (.func f) #[] caps) (hg : Goes P f) :
    (execOp a.eval o).run P w = .ok (.enter f (c.args.map a.eval ++ caps)) w := by
  simp [execOp, ho, resolve, hc, hx, Deferred.ofValue, Sem.run_bind, invoke, hg.run]
theorem callO_sound {T : Tab} (TS : TSound P T) {r : Operand → AV} (R : Rel μ h w) (hr : ∀ x, VR μ h (r x) (a.eval x)) {k : AV → Hp → Option β} {res : β} (hk : callO T r h o.op k = some res)
    (hK : ∀ v h1 μ' w' u, k v h1 = some res → Step μ h w μ' h1 w' → VR μ' h1 v u → K (a.put o.dst u) w') : o.wpIn Fence.wide n P a w K Q := by
  have key : ∀ (c : Call) (x : Operand) (f : Nat) (caps : List AV) (cv : Array Value), o.op = .call c → c.callee = .value x → a.eval x = .func (.func f) #[] cv → VRs μ h caps cv.toList →
      callK (T f) (c.args.toList.map r ++ caps) h k = some res → o.wpIn Fence.wide n P a w K Q := by
    intro c x f caps cv ho hc hx hcv hk
    unfold callK at hk
    split at hk <;> try (simp at hk; done)
    rename_i F hF
    split at hk <;> try (simp at hk; done)
    rename_i v h1 hv
    obtain ⟨hg, hcall⟩ := TS f F hF _ _ _ _ hv μ w (c.args.map a.eval ++ cv) R (by
      rw [Array.toList_append, Array.toList_map]
      exact VRs.append (VRs.map_ops hr _) hcv)
    refine op_enter (call_enter ho hc hx hg) hcall ?_
    rintro e w' ⟨u, μ', rfl, hst, hvr⟩
    exact ⟨u, rfl, hK _ _ _ _ _ hk hst hvr⟩
  unfold callO at hk
  split at hk <;> try (simp at hk; done)
  rename_i c ho
  split at hk <;> try (simp at hk; done)
  · rename_i f hc
    exact key c _ f [] #[] ho hc rfl (by simp [VRs]) (by simpa using hk)
  · rename_i f hnf hc
    unfold callVK at hk
    split at hk <;> try (simp at hk; done)
    rename_i g caps hg
    have := hr f
    rw [hg] at this
    simp only [VR] at this
    obtain ⟨vs, hev, hvs⟩ := this
    exact key c f g caps vs ho hc hev hvs hk
theorem none_loc : ∀ (f : Nat) (F : DFun), (fun _ => none : DTab) f = some F → DLoc F := fun f F hF => by cases hF
theorem op_sound {T : Tab} (TS : TSound P T) {r : Operand → AV} (R : Rel μ h w) (hr : ∀ x, VR μ h (r x) (a.eval x)) {k : AV → Hp → Option β} {res : β} (hk : opK P T r h o k = some res)
    (hK : ∀ v h1 μ' w' u, k v h1 = some res → Step μ h w μ' h1 w' → VR μ' h1 v u → K (a.put o.dst u) w') : o.wpIn Fence.wide n P a w K Q := by
  unfold opK at hk
  cases hc : calls o.op with
  | true => rw [hc] at hk; exact callO_sound TS R hr hk hK
  | false =>
    rw [hc] at hk
    simp only [cond_false] at hk
    cases ha : acts o.op with
    | false =>
      rw [ha] at hk
      simp only [cond_false] at hk
      rw [pureK_nat] at hk
      obtain ⟨v, hv, hk⟩ := Option.bind_eq_some_iff.1 hk
      obtain ⟨u, h1, h2⟩ := pure_sound (o := o) R hr hv
      exact op_out ⟨μ, w, Step.refl R, .inl ⟨u, h1, h2⟩⟩ fun μ' w' u hst hvr => hK _ _ _ _ _ hk hst hvr
    | true =>
      rw [ha] at hk
      simp only [cond_true, effK] at hk
      split at hk <;> try (simp at hk; done)
      rename_i v e he
      have hl := act_local (h' := h ++ List.replicate e.news.length .dead) none_loc he
      have hst0 := Step.pad R e.news.length
      have hout := act_sound hst0.rel (fun x => VR.evo hst0.evo _ _ (hr x)) hc (hl.1 (agree_pad _ _)) (fun j hj => by
        rw [List.getElem?_append_right (by omega)]; simp [hj])
      have hap := apAt_pad (h := h) (e := e) (fun p hp => let ⟨x, hx, _⟩ := hl.2 p hp; step_lt hx) 0
      simp only [Nat.add_zero, List.replicate_zero, List.append_nil] at hap
      rw [hap] at hout
      exact op_out hout fun μ' w' u hst hvr => hK _ _ _ _ _ hk (hst0.trans hst) hvr
end
end Go.AM
