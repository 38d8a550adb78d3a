import Derived.Test.YtlnjnfbdcdmacaaAmPure3
namespace Go.AM
open Go.RowKit
set_option linter.unusedVariables false
set_option linter.unusedSimpArgs false
variable {P : Program} {μ : Mu} {h : Hp} {w : World}
theorem VRs.map_ops {r : Operand → AV} {ρ : Operand → Value} (hr : ∀ x, VR μ h (r x) (ρ x)) (l : List Operand) : VRs μ h (l.map r) (l.map ρ) := VRs.map r ρ hr l
theorem opt_ops {r : Operand → AV} {ρ : Operand → Value} (hr : ∀ x, VR μ h (r x) (ρ x)) (o : Option Operand) : (∀ y, o.map r = some y → ∃ u, o.map ρ = some u ∧ VR μ h y u) ∧ (o.map r = none → o.map ρ = none) := by
  cases o with
  | none => exact ⟨fun y hy => by simp at hy, fun _ => rfl⟩
  | some x => exact ⟨fun y hy => by simp at hy; subst hy; exact ⟨_, rfl, hr x⟩, fun hn => by simp at hn⟩
/-- An operation that neither makes nor writes. -/
theorem pure_sound (R : Rel μ h w) {r : Operand → AV} {ρ : Operand → Value} (hr : ∀ x, VR μ h (r x) (ρ x)) {o : Oper} {a : AV} (hk : pureK P r h o.op some = some a) :
    ∃ v, (execOp ρ o).run P w = .ok (.value v) w ∧ VR μ h a v := by
  have key : ∀ {s : Sem Value} , (∃ v, s.run P w = .ok v w ∧ VR μ h a v) → (execOp ρ o = (do pure (Next.value (← s)))) → ∃ v, (execOp ρ o).run P w = .ok (.value v) w ∧ VR μ h a v := by
    rintro s ⟨v, h1, h2⟩ e
    exact ⟨v, by rw [e]; exact run_val h1, h2⟩
  unfold pureK at hk
  cases ho : o.op <;> rw [ho] at hk <;> try (simp at hk; done)
  case move x => simp at hk; subst hk; exact ⟨ρ x, by simp [execOp, ho], hr x⟩
  case assign x => simp at hk; subst hk; exact ⟨ρ x, by simp [execOp, ho], hr x⟩
  case pick c x y =>
    obtain ⟨u, h1, h2⟩ := pick_sound (P := P) (w := w) (hr c) (hr x) (hr y) hk
    exact ⟨u, by simpa [execOp, ho] using h1, h2⟩
  case build ty parts =>
    dsimp only at hk
    split at hk <;> try (simp at hk; done)
    rename_i z hz ha
    refine key (build_sound (parts := parts.toList.map fun p => (p.1, r p.2)) (vparts := parts.toList.map fun p => (p.1, ρ p.2)) hz ha (by simp) ?_ (by rw [List.map_map]; exact hk)) ?_
    · intro i p q h1 h2
      simp only [List.getElem?_map, Option.map_eq_some_iff] at h1 h2
      obtain ⟨x, hx, rfl⟩ := h1
      obtain ⟨y, hy, rfl⟩ := h2
      rw [hx] at hy
      injection hy with e
      subst e
      exact ⟨rfl, hr _⟩
    · simp only [execOp, ho]
      congr 2
      have : (parts.map fun x => (x.1, ρ x.2)) = (parts.toList.map fun p => (p.1, ρ p.2)).toArray := by apply Array.ext'; simp
      rw [← this]
  case load ty x =>
    dsimp only at hk
    split at hk <;> try (simp at hk; done)
    rename_i n hs
    exact key (ld_sound R (hr x) hs hk) (by simp [execOp, ho])
  case nilCheck x =>
    have hx := hr x
    unfold nilK at hk
    dsimp only at hk
    split at hk <;> try (simp at hk; done)
    all_goals
      rename_i e
      simp only [Option.some.injEq] at hk
      subst hk
      rw [e] at hx
      refine ⟨ρ x, ?_, hx⟩
      simp only [VR] at hx
    · obtain ⟨ad, e', _⟩ := hx; simp [execOp, ho, e']
    · obtain ⟨b, o', vs, e', _⟩ := hx; simp [execOp, ho, e']
    · obtain ⟨vs, e', _⟩ := hx; simp [execOp, ho, e']
    · simp [execOp, ho, hx]
  case binOp op ty x y yt => exact key (bin_sound (X := x) (Y := y) R (hr x) (hr y) hk) (by simp [execOp, ho])
  case unOp op ty x => exact key (un_sound (hr x) hk) (by simp [execOp, ho])
  case convert s d x => exact key (conv_sound (hr x) hk) (by simp [execOp, ho])
  case makeFunc fn first caps =>
    cases fn <;> dsimp only at hk <;> try (simp at hk; done)
    split at hk <;> try (simp at hk; done)
    rename_i f hf
    simp only [Option.some.injEq] at hk
    subst hk
    have : first = #[] := Array.size_eq_zero_iff.1 hf
    subst this
    refine ⟨.func (.func f) #[] (caps.map ρ), by simp [execOp, ho, Instr.makeFunc], ?_⟩
    simp only [VR]
    exact ⟨_, rfl, by rw [Array.toList_map]; exact VRs.map_ops hr _⟩
  case slice ty x lo hi mx =>
    dsimp only at hk
    split at hk <;> try (simp at hk; done)
    rename_i n hs
    obtain ⟨e, he, hs⟩ := Option.bind_eq_some_iff.1 hs
    obtain ⟨a1, a2⟩ := opt_ops hr lo
    obtain ⟨b1, b2⟩ := opt_ops hr hi
    obtain ⟨c1, c2⟩ := opt_ops hr mx
    exact key (slice_sound he hs (hr x) a1 a2 b1 b2 c1 c2 hk) (by simp [execOp, ho])
  case fieldAddr ty x f =>
    dsimp only at hk
    split at hk <;> try (simp at hk; done)
    rename_i off ft hf
    split at hk <;> try (simp at hk; done)
    rename_i n hs
    exact key (fa_sound hf hs (hr x) hk) (by simp [execOp, ho])
  case field ty x f =>
    dsimp only at hk
    split at hk <;> try (simp at hk; done)
    rename_i off ft hf
    split at hk <;> try (simp at hk; done)
    rename_i n hs
    exact key (fld_sound hf hs (hr x) hk) (by simp [execOp, ho])
  case indexAddr ty x i =>
    dsimp only at hk
    split at hk
    · rename_i len e he
      split at hk <;> try (simp at hk; done)
      rename_i n hs
      exact key (iaA_sound he hs (hr x) (hr i) hk) (by simp [execOp, ho])
    · split at hk <;> try (simp at hk; done)
      rename_i n hs
      obtain ⟨e, he, hs⟩ := Option.bind_eq_some_iff.1 hs
      exact key (ia_sound he hs (hr x) (hr i) hk) (by simp [execOp, ho])
  case index ty x i =>
    dsimp only at hk
    split at hk <;> try (simp at hk; done)
    rename_i hu
    exact key (ch_sound hu (hr x) (hr i) hk) (by simp [execOp, ho])
  case lookup ty m kk ok =>
    dsimp only at hk
    split at hk <;> try (simp at hk; done)
    rename_i kt et hu
    split at hk <;> try (simp at hk; done)
    rename_i z d hz hkt
    exact key (look_sound R hu hkt hz (hr m) (hr kk) hk) (by simp [execOp, ho])
  case extract x i => exact key (ex_sound (hr x) hk) (by simp [execOp, ho])
  case call c =>
    dsimp only at hk
    split at hk
    · rename_i hc
      split at hk <;> try (simp at hk; done)
      rename_i x ty hargs htys
      have e1 : c.args = #[x] := by apply Array.ext'; simpa using hargs
      have e2 : c.argTypes = #[ty] := by apply Array.ext'; simpa using htys
      split at hk
      · rename_i e hu
        obtain ⟨u, h1, h2⟩ := len_sound (ty := o.type) (w := w) hu (hr x) hk
        exact ⟨u, by simp [execOp, ho, resolve, hc, invoke, builtin, e1, e2, Sem.run_bind, h1], h2⟩
      · rename_i k e hu
        obtain ⟨u, h1, h2⟩ := lenM_sound (ty := o.type) R hu (hr x) hk
        exact ⟨u, by simp [execOp, ho, resolve, hc, invoke, builtin, e1, e2, Sem.run_bind, h1], h2⟩
      · simp at hk
    · rename_i hc
      split at hk <;> try (simp at hk; done)
      rename_i x y hargs
      have e1 : c.args = #[x, y] := by apply Array.ext'; simpa using hargs
      obtain ⟨u, h1, h2⟩ := min_sound (P := P) (w := w) (tys := c.argTypes) (ty := o.type) (hr x) (hr y) hk
      exact ⟨u, by simp [execOp, ho, resolve, hc, invoke, builtin, e1, Sem.run_bind, h1], h2⟩
    · rename_i hc
      split at hk <;> try (simp at hk; done)
      rename_i x y hargs
      have e1 : c.args = #[x, y] := by apply Array.ext'; simpa using hargs
      obtain ⟨u, h1, h2⟩ := max_sound (P := P) (w := w) (tys := c.argTypes) (ty := o.type) (hr x) (hr y) hk
      exact ⟨u, by simp [execOp, ho, resolve, hc, invoke, builtin, e1, Sem.run_bind, h1], h2⟩
    · simp at hk
end Go.AM
