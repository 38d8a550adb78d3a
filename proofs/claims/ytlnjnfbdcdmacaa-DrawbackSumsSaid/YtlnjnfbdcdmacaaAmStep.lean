import Derived.Test.YtlnjnfbdcdmacaaAmPure4
namespace Go.AM
open Go.RowKit
set_option linter.unusedVariables false
set_option linter.unusedSimpArgs false
variable {P : Program} {μ μ' : Mu} {h h' : Hp} {w w' : World}

/-- What lies in blocks that stay, stays. -/
theorem ORel.mono {id : Nat} {o : AObj} (he : Evo μ h μ' h') (hm : μ' id = μ id) (hb : ∀ blk x c, μ id = .real blk x c → w'.heap[blk]? = w.heap[blk]?) (hs : w.heap.size ≤ w'.heap.size)
    (H : ORel μ h w id o) : ORel μ' h' w' id o := by
  cases o with
  | dead => trivial
  | map kvs =>
    obtain ⟨blk, hmu, es, clock, hh, hl, hes⟩ := H
    exact ⟨blk, hm.trans hmu, es, clock, (hb _ _ _ hmu).trans hh, hl, fun i k a e h1 h2 => let ⟨p, q⟩ := hes i k a e h1 h2; ⟨p, VR.evo he _ _ q⟩⟩
  | arr sz es own nil =>
    refine ⟨H.1, ?_⟩
    have H2 := H.2
    rw [hm]
    cases hmu : μ id with
    | virt A => rw [hmu] at H2; exact H2
    | real blk x c =>
      rw [hmu] at H2
      have hq := hb _ _ _ hmu
      obtain ⟨h1, h2, h3, h4, h5, h6⟩ := H2
      refine ⟨h1, h2, h3, by omega, fun i e j a p q => ?_, fun ho => ?_⟩
      · obtain ⟨v, r1, r2, r3⟩ := h5 i e j a p q
        exact ⟨v, (cell_same hq _).trans r1, r2, VR.evo he _ _ r3⟩
      · obtain ⟨e0, cur, T, hc, hcs⟩ := h6 ho
        exact ⟨e0, cur, T, hq.trans hc, hcs⟩
theorem ORel.blk_lt {id : Nat} {o : AObj} (H : ORel μ h w id o) {b x c : Nat} (hm : μ id = .real b x c) (ho : isOwn o = true ∨ ∃ sz es own nil, o = .arr sz es own nil) : b < w.heap.size := by
  cases o with
  | dead => simp [isOwn] at ho
  | map kvs =>
    obtain ⟨blk, hmu, es, clock, hh, _⟩ := H
    rw [hm] at hmu
    injection hmu with e
    subst e
    exact (Array.getElem?_eq_some_iff.1 hh).1
  | arr sz es own nil =>
    have H2 := H.2
    rw [hm] at H2
    exact H2.2.2.2.1

/-- One object turns (or is made where there was none): its own block, or a new one. -/
theorem Step.upd (R : Rel μ h w) {id : Nat} {old o' : AObj} {loc : Loc} (hold : h[id]? = some old)
    (hevo : match old with
      | .arr sz es own nil => ∃ es' nil', o' = .arr sz es' own nil' ∧ es.length ≤ es'.length ∧ (es'.length = es.length → loc = μ id)
      | .map _ => ∃ kvs', o' = .map kvs' ∧ loc = μ id
      | .dead => True)
    (hfr : Frame (fun b => isOwn old = true ∧ ∃ x c, μ id = .real b x c) w w')
    (hloc : ∀ b x c, loc = .real b x c → w.heap.size ≤ b ∨ (isOwn old = true ∧ ∃ x' c', μ id = .real b x' c'))
    (hown : isOwn o' = true)
    (ho : Evo μ h (μ.set id loc) (h.set id o') → ORel (μ.set id loc) (h.set id o') w' id o') :
    Step μ h w (μ.set id loc) (h.set id o') w' := by
  have hlt : id < h.length := (List.getElem?_eq_some_iff.1 hold).1
  have hset : (h.set id o')[id]? = some o' := by simp [hlt]
  have hne : ∀ i, i ≠ id → (h.set id o')[i]? = h[i]? := fun i hi => List.getElem?_set_ne (Ne.symm hi)
  have hE : Evo μ h (μ.set id loc) (h.set id o') := by
    refine ⟨ImmLe.refl _, ?_⟩
    intro i o hi
    by_cases e : i = id
    · subst e
      rw [hold] at hi
      injection hi with hi
      subst hi
      cases old with
      | dead => trivial
      | map kvs => obtain ⟨kvs', e1, e2⟩ := hevo; exact ⟨kvs', by rw [hset, e1], by simp [e2]⟩
      | arr sz es own nil => obtain ⟨es', nil', e1, e2, e3⟩ := hevo; exact ⟨es', nil', by rw [hset, e1], e2, fun q => by simp [e3 q]⟩
    · cases o with
      | dead => trivial
      | map kvs => exact ⟨kvs, by rw [hne i e]; exact hi, by simp [e]⟩
      | arr sz es own nil => exact ⟨es, nil, by rw [hne i e]; exact hi, Nat.le_refl _, fun _ => by simp [e]⟩
  -- the block of the turned object is no other object's
  have hsame : ∀ i o b x c, i ≠ id → h[i]? = some o → μ i = .real b x c → (isOwn o = true ∨ ∃ sz es own nil, o = .arr sz es own nil) → w'.heap[b]? = w.heap[b]? := by
    intro i o b x c hi hio hm hk
    refine hfr.block b (ORel.blk_lt (R.obj i o hio) hm hk) ?_
    rintro ⟨h1, x', c', h2⟩
    by_cases hO : isOwn o = true
    · exact hi (R.sep i id o old b x c x' c' hio hold hO h1 hm h2)
    · rcases hk with hk | ⟨sz, es, own, nil, rfl⟩
      · exact hO hk
      · cases own with
        | true => exact hO rfl
        | false => exact R.apart i sz es nil b x c hio hm ⟨id, old, x', c', hold, h1, h2⟩
  have hO' : ∀ b, Own (μ.set id loc) (h.set id o') b → Own μ h b ∨ w.heap.size ≤ b := by
    rintro b ⟨i, o, x, c, h1, h2, h3⟩
    by_cases e : i = id
    · subst e
      simp at h3
      rcases hloc b x c h3 with h4 | ⟨h4, x', c', h5⟩
      · exact .inr h4
      · exact .inl ⟨i, old, x', c', hold, h4, h5⟩
    · rw [hne i e] at h1
      simp only [Mu.set_loc, e, if_false] at h3
      exact .inl ⟨i, o, x, c, h1, h2, h3⟩
  refine ⟨⟨?_, ?_, ?_, ?_⟩, hE, ⟨hfr.os, hfr.tape, hfr.output, hfr.size, fun k hk hn => hfr.block k hk fun ⟨h1, x, c, h2⟩ => hn ⟨id, old, x, c, hold, h1, h2⟩⟩, hO', fun k hk => .inl hk⟩
  · intro i o hi
    by_cases e : i = id
    · subst e
      rw [hset] at hi
      injection hi with hi
      subst hi
      exact ho hE
    · rw [hne i e] at hi
      cases o with
      | dead => trivial
      | map kvs => exact ORel.mono hE (by simp [e]) (fun b x c hm => hsame i _ b x c e hi hm (.inl rfl)) hfr.size (R.obj i _ hi)
      | arr sz es own nil => exact ORel.mono hE (by simp [e]) (fun b x c hm => hsame i _ b x c e hi hm (.inr ⟨_, _, _, _, rfl⟩)) hfr.size (R.obj i _ hi)
  · intro i j o p b x c y d hi hj hoi hpj hmi hmj
    by_cases ei : i = id
    · by_cases ej : j = id
      · rw [ei, ej]
      · subst ei
        rw [hne j ej] at hj
        simp only [Mu.set_loc, if_true] at hmi
        simp only [Mu.set_loc, ej, if_false] at hmj
        exfalso
        rcases hloc b x c hmi with h4 | ⟨h4, x', c', h5⟩
        · have := ORel.blk_lt (R.obj j p hj) hmj (.inl hpj); omega
        · exact ej (R.sep j i p old b y d x' c' hj hold hpj h4 hmj h5)
    · rw [hne i ei] at hi
      simp only [Mu.set_loc, ei, if_false] at hmi
      by_cases ej : j = id
      · subst ej
        simp only [Mu.set_loc, if_true] at hmj
        exfalso
        rcases hloc b y d hmj with h4 | ⟨h4, x', c', h5⟩
        · have := ORel.blk_lt (R.obj i o hi) hmi (.inl hoi); omega
        · exact ei (R.sep i j o old b x c x' c' hi hold hoi h4 hmi h5)
      · rw [hne j ej] at hj
        simp only [Mu.set_loc, ej, if_false] at hmj
        exact R.sep i j o p b x c y d hi hj hoi hpj hmi hmj
  · intro i sz es nil b x c hi hmi hO
    by_cases ei : i = id
    · subst ei
      rw [hset] at hi
      injection hi with hi
      subst hi
      simp [isOwn] at hown
    · rw [hne i ei] at hi
      simp only [Mu.set_loc, ei, if_false] at hmi
      rcases hO' b hO with h1 | h1
      · exact R.apart i sz es nil b x c hi hmi h1
      · have := ORel.blk_lt (R.obj i _ hi) hmi (.inr ⟨_, _, _, _, rfl⟩); omega
  · intro k hk
    obtain ⟨h1, h2, h3⟩ := R.imm k hk
    refine ⟨Nat.lt_of_lt_of_le h1 hfr.size, (hfr.block k h1 fun ⟨q1, x, c, q2⟩ => h3 ⟨id, old, x, c, hold, q1, q2⟩).trans h2, fun hO => ?_⟩
    rcases hO' k hO with q | q
    · exact h3 q
    · omega
/-- Room for objects to come. -/
theorem Step.pad (R : Rel μ h w) (n : Nat) : Step μ h w μ (h ++ List.replicate n .dead) w := by
  have hin : ∀ i o, h[i]? = some o → (h ++ List.replicate n .dead)[i]? = some o := fun i o hi => by
    rw [List.getElem?_append_left (List.getElem?_eq_some_iff.1 hi).1]; exact hi
  have hout : ∀ i o, (h ++ List.replicate n .dead)[i]? = some o → h[i]? = some o ∨ o = AObj.dead := fun i o hi => by
    rcases Nat.lt_or_ge i h.length with hl | hl
    · rw [List.getElem?_append_left hl] at hi; exact .inl hi
    · rw [List.getElem?_append_right hl, List.getElem?_replicate] at hi
      split at hi <;> simp_all
  have hE : Evo μ h μ (h ++ List.replicate n .dead) := by
    refine ⟨ImmLe.refl _, ?_⟩
    intro i o hi
    cases o with
    | dead => trivial
    | map kvs => exact ⟨kvs, hin _ _ hi, rfl⟩
    | arr sz es own nil => exact ⟨es, nil, hin _ _ hi, Nat.le_refl _, fun _ => rfl⟩
  have hO : ∀ b, Own μ (h ++ List.replicate n .dead) b → Own μ h b := by
    rintro b ⟨i, o, x, c, h1, h2, h3⟩
    rcases hout i o h1 with h4 | rfl
    · exact ⟨i, o, x, c, h4, h2, h3⟩
    · simp [isOwn] at h2
  refine ⟨⟨?_, ?_, ?_, fun k hk => ⟨(R.imm k hk).1, (R.imm k hk).2.1, fun q => (R.imm k hk).2.2 (hO k q)⟩⟩, hE, Frame.refl _ _, fun b hb => .inl (hO b hb), fun k hk => .inl hk⟩
  · intro i o hi
    rcases hout i o hi with h4 | rfl
    · exact ORel.mono hE rfl (fun _ _ _ _ => rfl) (Nat.le_refl _) (R.obj i o h4)
    · trivial
  · intro i j o p b x c y d hi hj hoi hpj hmi hmj
    rcases hout i o hi with h4 | rfl
    · rcases hout j p hj with h5 | rfl
      · exact R.sep i j o p b x c y d h4 h5 hoi hpj hmi hmj
      · simp [isOwn] at hpj
    · simp [isOwn] at hoi
  · intro i sz es nil b x c hi hmi hOb
    rcases hout i _ hi with h4 | h4
    · exact R.apart i sz es nil b x c h4 hmi (hO b hOb)
    · cases h4
theorem Frame.alloc (S : Nat → Prop) (w : World) (o : Obj) : Frame S w (w.alloc o) := ⟨rfl, rfl, rfl, by simp, fun k hk _ => Below.heap_alloc w o k hk⟩
theorem Frame.drew (S : Nat → Prop) (w : World) : Frame S w w.drew := ⟨rfl, rfl, rfl, Nat.le_refl _, fun _ _ _ => rfl⟩
/-- A draw turns nothing. -/
theorem Step.drew (R : Rel μ h w) : Step μ h w μ h w.drew :=
  ⟨⟨fun i o hi => ORel.mono (Evo.refl _ _) rfl (fun _ _ _ _ => rfl) (Nat.le_refl _) (R.obj i o hi), R.sep, R.apart, R.imm⟩, Evo.refl _ _, Frame.drew _ _, fun b hb => .inl hb, fun k hk => .inl hk⟩
end Go.AM
