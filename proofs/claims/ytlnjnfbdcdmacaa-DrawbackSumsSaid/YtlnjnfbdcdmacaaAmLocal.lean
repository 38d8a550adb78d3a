import Derived.Test.YtlnjnfbdcdmacaaAmOp
namespace Go.AM
set_option linter.unusedVariables false
set_option linter.unusedSimpArgs false
variable {P : Program} {h h' : Hp}
/-- The same at these objects. -/
def Agree (ids : List Nat) (h h' : Hp) : Prop := ∀ id, id ∈ ids → ∀ x, h[id]? = some x → h'[id]? = some x
structure DLoc (F : DFun) : Prop where
  local_ : ∀ args h base v e, F args h base = some (v, e) → ∀ h', Agree e.foot h h' → F args h' base = some (v, e)
  live : ∀ args h base v e, F args h base = some (v, e) → ∀ p ∈ e.puts, ∃ x, h[p.1]? = some x ∧ x ≠ .dead
theorem stE_local {n : Nat} {p v a : AV} {e : Eff} (hk : stE n p v h = some (a, e)) : (Agree e.foot h h' → stE n p v h' = some (a, e)) ∧ ∀ p ∈ e.puts, ∃ x, h[p.1]? = some x ∧ x ≠ .dead := by
  have hk' := hk
  unfold stE at hk
  split at hk <;> try (simp at hk; done)
  rename_i id idx sub fr
  split at hk <;> try (simp at hk; done)
  rename_i sz es own nil ho
  split at hk <;> try (simp at hk; done)
  split at hk <;> try (simp at hk; done)
  split at hk <;> try (simp at hk; done)
  simp only [Option.some.injEq, Prod.mk.injEq] at hk
  obtain ⟨rfl, rfl⟩ := hk
  refine ⟨fun hag => ?_, fun p hp => ?_⟩
  · have := hag id (by simp) _ ho
    rw [← hk']
    simp only [stE, this, ho]
  · simp at hp; subst hp; exact ⟨_, ho, by simp⟩
theorem mupE_local {kt : TypeId} {m kk v a : AV} {e : Eff} (hk : mupE P kt m kk v h = some (a, e)) : (Agree e.foot h h' → mupE P kt m kk v h' = some (a, e)) ∧ ∀ p ∈ e.puts, ∃ x, h[p.1]? = some x ∧ x ≠ .dead := by
  have hk' := hk
  unfold mupE at hk
  split at hk <;> try (simp at hk; done)
  rename_i id kv hkv
  split at hk <;> try (simp at hk; done)
  rename_i kvs ho
  split at hk <;> try (simp at hk; done)
  split at hk <;> try (simp at hk; done)
  simp only [Option.some.injEq, Prod.mk.injEq] at hk
  obtain ⟨rfl, rfl⟩ := hk
  refine ⟨fun hag => ?_, fun p hp => ?_⟩
  · have := hag id (by simp) _ ho
    rw [← hk']
    simp only [mupE, hkv, this, ho]
  · simp at hp; subst hp; exact ⟨_, ho, by simp⟩
theorem readSl_local {x : AV} {ns : List (List AV)} (hk : readSl h x = some ns) (hag : Agree (idsOf x) h h') : readSl h' x = some ns := by
  have hk' := hk
  unfold readSl at hk
  split at hk <;> try (simp at hk; done)
  · exact hk'
  · exact hk'
  · rename_i sz id off len fr full
    split at hk <;> try (simp at hk; done)
    rename_i sz' es own nil ho
    have := hag id (by simp [idsOf]) _ ho
    rw [← hk']
    simp only [readSl, this, ho]
theorem appE_local {n b base : Nat} {s x a : AV} {e : Eff} (hk : appE n b s x h base = some (a, e)) : (Agree e.foot h h' → appE n b s x h' base = some (a, e)) ∧ ∀ p ∈ e.puts, ∃ x, h[p.1]? = some x ∧ x ≠ .dead := by
  have hk' := hk
  unfold appE at hk
  split at hk <;> try (simp at hk; done)
  rename_i news hnews
  split at hk <;> try (simp at hk; done)
  · have key : ∀ e : Eff, e.foot = idsOf x → (Agree e.foot h h' → appE n b (.s (.slice none 0 0)) x h' base = appE n b (.s (.slice none 0 0)) x h base) := by
      intro e he hag
      rw [he] at hag
      simp only [appE, hnews, readSl_local hnews hag]
    split at hk
    · simp only [Option.some.injEq, Prod.mk.injEq] at hk
      obtain ⟨rfl, rfl⟩ := hk
      exact ⟨fun hag => by rw [key _ rfl hag, hk'], by simp⟩
    · split at hk <;> try (simp at hk; done)
      simp only [Option.some.injEq, Prod.mk.injEq] at hk
      obtain ⟨rfl, rfl⟩ := hk
      exact ⟨fun hag => by rw [key _ rfl hag, hk'], by simp⟩
  · rename_i szx id off len fr full
    split at hk <;> try (simp at hk; done)
    rename_i sz es own nil ho
    have key : ∀ e : Eff, e.foot = id :: idsOf x → (Agree e.foot h h' → appE n b (.sl szx id off len fr full) x h' base = appE n b (.sl szx id off len fr full) x h base) := by
      intro e he hag
      rw [he] at hag
      have h1 := hag id (by simp) _ ho
      simp only [appE, hnews, readSl_local hnews (fun i hi => hag i (by simp [hi])), h1, ho]
    split at hk <;> try (simp at hk; done)
    split at hk
    · simp only [Option.some.injEq, Prod.mk.injEq] at hk
      obtain ⟨rfl, rfl⟩ := hk
      exact ⟨fun hag => by rw [key _ rfl hag, hk'], by simp⟩
    · split at hk <;> try (simp at hk; done)
      simp only [Option.some.injEq, Prod.mk.injEq] at hk
      obtain ⟨rfl, rfl⟩ := hk
      exact ⟨fun hag => by rw [key _ rfl hag, hk'], fun p hp => by simp at hp; subst hp; exact ⟨_, ho, by simp⟩⟩
theorem callE_local {D : DTab} (DL : ∀ f F, D f = some F → DLoc F) {f : Nat} {args : List AV} {base : Nat} {a : AV} {e : Eff} (hk : callE (D f) args h base = some (a, e)) :
    (Agree e.foot h h' → callE (D f) args h' base = some (a, e)) ∧ ∀ p ∈ e.puts, ∃ x, h[p.1]? = some x ∧ x ≠ .dead := by
  unfold callE at hk ⊢
  cases hF : D f with
  | none => rw [hF] at hk; simp at hk
  | some F =>
    rw [hF] at hk
    dsimp only at hk ⊢
    exact ⟨fun hag => (DL f F hF).local_ _ _ _ _ _ hk _ hag, (DL f F hF).live _ _ _ _ _ hk⟩
theorem act_local {D : DTab} (DL : ∀ f F, D f = some F → DLoc F) {r : Operand → AV} {o : Op} {a : AV} {base : Nat} {e : Eff} (hk : actE P D r h base o = some (a, e)) :
    (Agree e.foot h h' → actE P D r h' base o = some (a, e)) ∧ ∀ p ∈ e.puts, ∃ x, h[p.1]? = some x ∧ x ≠ .dead := by
  have box : ∀ {n : Nat} {x : AV}, boxE n x base = some (a, e) → ∀ p ∈ e.puts, ∃ x, h[p.1]? = some x ∧ x ≠ .dead := by
    intro n x hb
    unfold boxE at hb
    split at hb <;> try (simp at hb; done)
    simp only [Option.some.injEq, Prod.mk.injEq] at hb
    obtain ⟨rfl, rfl⟩ := hb
    simp [EN]
  unfold actE at hk ⊢
  cases o <;> try (simp at hk; done)
  case alloc el =>
    dsimp only at hk ⊢
    refine ⟨fun _ => hk, ?_⟩
    split at hk <;> try (simp at hk; done)
    exact box hk
  case box el x =>
    dsimp only at hk ⊢
    refine ⟨fun _ => hk, ?_⟩
    split at hk <;> try (simp at hk; done)
    exact box hk
  case buildSlice ty len parts =>
    dsimp only at hk ⊢
    refine ⟨fun _ => hk, ?_⟩
    split at hk <;> try (simp at hk; done)
    split at hk <;> try (simp at hk; done)
    split at hk <;> try (simp at hk; done)
    unfold bsE at hk
    split at hk <;> try (simp at hk; done)
    simp only [Option.some.injEq, Prod.mk.injEq] at hk
    obtain ⟨rfl, rfl⟩ := hk
    simp [EN]
  case store ty x y =>
    dsimp only at hk ⊢
    split at hk <;> try (simp at hk; done)
    exact stE_local hk
  case makeMap ty x =>
    cases x with
    | some x => simp at hk
    | none =>
      dsimp only at hk ⊢
      refine ⟨fun _ => hk, ?_⟩
      simp only [Option.some.injEq, Prod.mk.injEq] at hk
      obtain ⟨rfl, rfl⟩ := hk
      simp [EN]
  case mapUpdate ty m kk x =>
    dsimp only at hk ⊢
    split at hk <;> try (simp at hk; done)
    split at hk <;> try (simp at hk; done)
    exact mupE_local hk
  case insert ty m kk x =>
    dsimp only at hk ⊢
    split at hk <;> try (simp at hk; done)
    split at hk <;> try (simp at hk; done)
    exact mupE_local hk
  case call c =>
    dsimp only at hk ⊢
    split at hk <;> try (simp at hk; done)
    · split at hk <;> try (simp at hk; done)
      split at hk <;> try (simp at hk; done)
      rename_i hm1
      split at hk <;> try (simp at hk; done)
      split at hk <;> try (simp at hk; done)
      split at hk <;> try (simp at hk; done)
      rename_i hm2
      rw [if_pos hm1, if_pos hm2]
      exact appE_local hk
    · exact callE_local DL hk
    · unfold callVE at hk ⊢
      split at hk <;> try (simp at hk; done)
      exact callE_local DL hk
theorem pure_local {r : Operand → AV} {o : Op} {a : AV} (hk : pureK P r h o some = some a) (hag : Agree (footP P r o) h h') : pureK P r h' o some = some a := by
  have hk' := hk
  unfold pureK at hk ⊢
  cases o <;> try exact hk
  case makeFunc fn first caps => cases fn <;> exact hk
  case load ty x =>
    dsimp only at hk ⊢
    split at hk <;> try (simp at hk; done)
    have hk2 := hk
    unfold ldK at hk
    split at hk <;> try (simp at hk; done)
    case h_2 e sub hx => rw [hx] at hk2 ⊢; exact hk2
    rename_i id idx sub fr hx
    split at hk <;> try (simp at hk; done)
    rename_i sz es own nil ho
    have := hag id (by simp [footP, looksH, hx, idsOf]) _ ho
    rw [← hk2, hx]
    simp only [ldK, this, ho]
  case lookup ty m kk ok =>
    dsimp only at hk ⊢
    split at hk <;> try (simp at hk; done)
    split at hk <;> try (simp at hk; done)
    have hk2 := hk
    unfold lookK at hk
    split at hk <;> try (simp at hk; done)
    rename_i id kv hm hkv
    split at hk <;> try (simp at hk; done)
    rename_i kvs ho
    have := hag id (by simp [footP, looksH, hm, idsOf]) _ ho
    rw [← hk2, hm]
    simp only [lookK, hkv, this, ho]
  case binOp op ty x y yt =>
    dsimp only at hk ⊢
    have key : ∀ neq, (∀ id, id ∈ idsOf (r x) → isSl P ty = true → ∀ z, h[id]? = some z → h'[id]? = some z) → eqK P neq ty (r x) (r y) h some = some a → eqK P neq ty (r x) (r y) h' some = some a := by
      intro neq hag hk
      have hk2 := hk
      unfold eqK at hk
      split at hk
      · rename_i e1 e2; rw [e1, e2] at hk2 ⊢; exact hk2
      · rename_i e1 e2; rw [e1, e2] at hk2 ⊢; exact hk2
      · rename_i sz id off len fr full n c e1 e2
        split at hk <;> try (simp at hk; done)
        rename_i el sz' es own nil he ho
        have hsl : isSl P ty = true := by
          unfold elemOf at he
          unfold isSl
          split at he <;> simp_all
        have := hag id (by simp [e1, idsOf]) hsl _ ho
        rw [← hk2, e1, e2]
        simp only [eqK, this, ho]
      · rename_i e1 e2; rw [e1, e2] at hk2 ⊢; exact hk2
      · rename_i n1 n2 n3 n4
        have e : ∀ hh, eqK P neq ty (r x) (r y) hh some = reckK P (if neq then .neq else .eql) ty (r x) (r y) some := by
          intro hh
          unfold eqK
          split
          · rename_i q1 q2; exact (n1 _ _ _ _ q1 q2).elim
          · rename_i q1 q2; exact (n2 _ _ q1 q2).elim
          · rename_i q1 q2; exact (n3 _ _ _ _ _ _ _ _ q1 q2).elim
          · rename_i q1 q2; exact (n4 _ _ _ _ _ q1 q2).elim
          · rfl
        rw [e] at hk2 ⊢
        exact hk2
    cases op <;> first | exact hk | skip
    all_goals
      simp only [binK] at hk ⊢
      refine key _ (fun id hid hsl => hag id ?_) hk
      simpa [footP, looksH, hsl] using hid
  case call c =>
    dsimp only at hk ⊢
    split at hk <;> first | exact hk | skip
    rename_i hc
    split at hk <;> try (simp at hk; done)
    rename_i x ty hargs htys
    split at hk <;> first | exact hk | skip
    rename_i k el hu
    have hk2 := hk
    unfold lenM at hk
    split at hk <;> try (simp at hk; done)
    · rename_i e1; rw [e1] at hk2 ⊢; exact hk2
    · rename_i id e1
      split at hk <;> try (simp at hk; done)
      rename_i kvs ho
      have := hag id (by simp [footP, looksH, hc, htys, isMap, hu, hargs, e1, idsOf]) _ ho
      rw [← hk2, e1]
      simp only [lenM, this, ho]
end Go.AM
