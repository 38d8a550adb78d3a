import Derived.Test.YtlnjnfbdcdmacaaAmApp
namespace Go.AM
open Go.RowKit
set_option linter.unusedVariables false
set_option linter.unusedSimpArgs false
variable {P : Program} {μ μ' : Mu} {h h' : Hp} {w w' : World}
theorem Out.val {s : Sem Value} {n : Sem Next} {a : AV} {h' : Hp} (hn : n = (do pure (Next.value (← s)))) (hs : ∃ w' u μ', s.run P w = .ok u w' ∧ Step μ h w μ' h' w' ∧ VR μ' h' a u) : Out P n μ h w a h' := by
  obtain ⟨w', u, μ', h1, h2, h3⟩ := hs
  exact ⟨μ', w', h2, .inl ⟨u, by rw [hn]; simp [Sem.run_bind, h1], h3⟩⟩
theorem Out.unit {s : Sem Unit} {n : Sem Next} {a : AV} {h' : Hp} (hn : n = (do s; pure Next.skip)) (hs : ∃ w' μ', s.run P w = .ok () w' ∧ Step μ h w μ' h' w' ∧ a = .u) : Out P n μ h w a h' := by
  obtain ⟨w', μ', h1, h2, h3⟩ := hs
  exact ⟨μ', w', h2, .inr ⟨by rw [hn]; simp [Sem.run_bind, h1], h3⟩⟩
theorem boxE_news {n : Nat} {x a : AV} {base : Nat} {e : Eff} (hk : boxE n x base = some (a, e)) : e.news.length = 1 := by
  unfold boxE at hk
  split at hk <;> try (simp at hk; done)
  simp only [Option.some.injEq, Prod.mk.injEq] at hk
  obtain ⟨rfl, rfl⟩ := hk
  rfl
theorem bsE_news {n len : Nat} {z : List AV} {parts : List (Nat × AV)} {a : AV} {base : Nat} {e : Eff} (hk : bsE n z len parts base = some (a, e)) : e.news.length = 1 := by
  unfold bsE at hk
  split at hk <;> try (simp at hk; done)
  simp only [Option.some.injEq, Prod.mk.injEq] at hk
  obtain ⟨rfl, rfl⟩ := hk
  rfl
theorem act_sound (R : Rel μ h w) {D : DTab} {r : Operand → AV} {ρ : Operand → Value} (hr : ∀ x, VR μ h (r x) (ρ x)) {o : Oper} {a : AV} {base : Nat} {e : Eff} (hc : calls o.op = false)
    (hk : actE P D r h base o.op = some (a, e)) (hd : ∀ j, j < e.news.length → h[base + j]? = some .dead) : Out P (execOp ρ o) μ h w a (apAt h base e) := by
  unfold actE at hk
  cases ho : o.op <;> rw [ho] at hk <;> try (simp at hk; done)
  case alloc el =>
    dsimp only at hk
    split at hk <;> try (simp at hk; done)
    rename_i z n hz hn
    have hd0 := hd 0 (by rw [boxE_news hk]; exact Nat.one_pos)
    exact .val (by simp [execOp, ho]) (alloc_sound R hz hk hd0)
  case box el x =>
    dsimp only at hk
    split at hk <;> try (simp at hk; done)
    have hd0 := hd 0 (by rw [boxE_news hk]; exact Nat.one_pos)
    exact .val (s := Instr.box el (ρ x)) (by simp [execOp, ho]) (box_sound R (hr x) hk hd0)
  case buildSlice ty len parts =>
    dsimp only at hk
    split at hk <;> try (simp at hk; done)
    rename_i el hel
    split at hk <;> try (simp at hk; done)
    rename_i n z hs hz
    split at hk <;> try (simp at hk; done)
    rename_i hcond
    obtain ⟨h1, h2, h3, h4⟩ := hcond
    have hd0 := hd 0 (by rw [bsE_news hk]; exact Nat.one_pos)
    refine .val ?_ (buildSlice_sound (parts := parts.toList.map fun p => (p.1, r p.2)) (vparts := parts.toList.map fun p => (p.1, ρ p.2)) R hel hs hz ⟨h3, h4⟩ h1 h2 (by simp) ?_ hk hd0)
    · simp only [execOp, ho]
      congr 2
      have : (parts.map fun x => (x.1, ρ x.2)) = (parts.toList.map fun p => (p.1, ρ p.2)).toArray := by apply Array.ext'; simp
      rw [← this]
    · intro i p q h1 h2
      simp only [List.getElem?_map, Option.map_eq_some_iff] at h1 h2
      obtain ⟨x, hx, rfl⟩ := h1
      obtain ⟨y, hy, rfl⟩ := h2
      rw [hx] at hy
      injection hy with e
      subst e
      exact ⟨rfl, hr _⟩
  case store ty x y =>
    dsimp only at hk
    split at hk <;> try (simp at hk; done)
    rename_i n hs
    exact .unit (by simp [execOp, ho]) (store_sound R hs (hr x) (hr y) hk base)
  case makeMap ty x =>
    cases x with
    | some x => simp at hk
    | none =>
      simp only [Option.some.injEq, Prod.mk.injEq] at hk
      obtain ⟨rfl, rfl⟩ := hk
      have hd0 := hd 0 (by simp)
      exact .val (s := Instr.makeMap ty none) (by simp [execOp, ho]) (makeMap_sound R hd0)
  case mapUpdate ty m kk x =>
    dsimp only at hk
    split at hk <;> try (simp at hk; done)
    rename_i kt et hu
    split at hk <;> try (simp at hk; done)
    rename_i d hkt
    exact .unit (by simp [execOp, ho]) (mup_sound R hu hkt (hr m) (hr kk) (hr x) hk base)
  case insert ty m kk x =>
    dsimp only at hk
    split at hk <;> try (simp at hk; done)
    rename_i kt et hu
    split at hk <;> try (simp at hk; done)
    rename_i d hkt
    exact .unit (by simp [execOp, ho]) (mup_sound R hu hkt (hr m) (hr kk) (hr x) hk base)
  case call c =>
    dsimp only at hk
    split at hk <;> try (simp at hk; done)
    · rename_i hcal
      split at hk <;> try (simp at hk; done)
      rename_i s x ty ty' hargs htys
      split at hk <;> try (simp at hk; done)
      rename_i hty
      subst hty
      split at hk <;> try (simp at hk; done)
      rename_i el hel
      split at hk <;> try (simp at hk; done)
      rename_i n b m hs hb hz
      split at hk <;> try (simp at hk; done)
      rename_i hm
      obtain ⟨rfl, hbp⟩ := hm
      simp only [Option.map_eq_some_iff, Prod.mk.injEq] at hz
      obtain ⟨z, hz, hzl, hzo⟩ := hz
      have e1 : c.args = #[s, x] := by apply Array.ext'; simpa using hargs
      have e2 : c.argTypes = #[ty, ty] := by apply Array.ext'; simpa using htys
      refine .val (s := Builtin.append_ #[ty, ty] o.type #[ρ s, ρ x]) (by simp [execOp, ho, resolve, hcal, invoke, builtin, e1, e2])
        (app_sound R (elemOf_under hel) hs hb hz hzl hzo ?_ (hr s) (hr x) hk ?_)
      · intro m hm
        have : m * 1 ≤ m * b := Nat.mul_le_mul_left _ hbp
        unfold maxLen
        omega
      · intro hne
        have := hd 0 (List.length_pos_iff.2 hne)
        simpa using this
    · rename_i f hcal; simp [calls, ho, hcal] at hc
    · rename_i f hnf hcal; simp [calls, ho, hcal] at hc
end Go.AM
