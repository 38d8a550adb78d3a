import Derived.Test.YtlnjnfbdcdmacaaAmCode
namespace Go.AM
open Go.RowKit
set_option linter.unusedVariables false
set_option linter.constructorNameAsVariable false
set_option linter.unusedSimpArgs false
variable {P : Program} {μ μ' : Mu} {h h' : Hp} {w w' : World} {β : Type} {ks : List Nat} {np nt : Nat}
/-! ### Putting -/
def sets (H : Hp) (S : List (Nat × AObj)) : Hp := S.foldl (fun h p => h.set p.1 p.2) H
def putsOf (b : Nat) (e : Eff) : List (Nat × AObj) := e.puts ++ (e.news.zipIdx b).map fun p => (p.2, p.1)
theorem apAt_sets (H : Hp) (b : Nat) (e : Eff) : apAt H b e = sets H (putsOf b e) := by
  simp only [apAt, sets, putsOf, List.foldl_append, List.foldl_map]
theorem mem_wrOf {b : Nat} {e : Eff} {id : Nat} (hid : id ∈ (putsOf b e).map (·.1)) : id ∈ wrOf b e := by
  simp only [putsOf, List.map_append, List.map_map, List.mem_append, List.mem_map] at hid
  simp only [wrOf, List.mem_append, List.mem_map, List.mem_range]
  rcases hid with ⟨p, hp, rfl⟩ | ⟨p, hp, rfl⟩
  · exact .inl ⟨p, hp, rfl⟩
  · obtain ⟨h1, h2, h3⟩ := List.mem_zipIdx hp
    exact .inr ⟨p.2 - b, by omega, by simp; omega⟩
theorem sets_set (id : Nat) (o : AObj) : ∀ (S : List (Nat × AObj)) (H : Hp), id ∉ S.map (·.1) → (sets H S).set id o = sets (H.set id o) S
  | [], H, _ => rfl
  | p :: S, H, hn => by
    simp only [List.map_cons, List.mem_cons, not_or] at hn
    simp only [sets, List.foldl_cons]
    rw [List.set_comm _ _ hn.1]
    exact sets_set id o S _ hn.2
theorem sets_comm : ∀ (S' S : List (Nat × AObj)) (H : Hp), (∀ id, id ∈ S'.map (·.1) → id ∉ S.map (·.1)) → sets (sets H S) S' = sets (sets H S') S
  | [], S, H, _ => rfl
  | p :: S', S, H, hn => by
    show sets ((sets H S).set p.1 p.2) S' = sets (sets (H.set p.1 p.2) S') S
    rw [sets_set _ _ _ _ (hn p.1 (by simp))]
    exact sets_comm S' S _ fun id hid => hn id (by simp only [List.map_cons, List.mem_cons]; exact .inr hid)
theorem sets_other {id : Nat} : ∀ (S : List (Nat × AObj)) (H : Hp), id ∉ S.map (·.1) → (sets H S)[id]? = H[id]?
  | [], H, _ => rfl
  | p :: S, H, hn => by
    simp only [List.map_cons, List.mem_cons, not_or] at hn
    show (sets (H.set p.1 p.2) S)[id]? = _
    rw [sets_other S _ hn.2, List.getElem?_set_ne (Ne.symm hn.1)]
theorem apAt_other {H : Hp} {b : Nat} {e : Eff} {id : Nat} (hn : id ∉ wrOf b e) : (apAt H b e)[id]? = H[id]? := by
  rw [apAt_sets]; exact sets_other _ _ fun hm => hn (mem_wrOf hm)
theorem apAt_comm {H : Hp} {b c : Nat} {e f : Eff} (hn : ∀ id, id ∈ wrOf b e → id ∉ wrOf c f) : apAt (apAt H c f) b e = apAt (apAt H b e) c f := by
  simp only [apAt_sets]
  exact sets_comm _ _ _ fun id h1 h2 => hn id (mem_wrOf h1) (mem_wrOf h2)
def updO (τ : Tm) (d : Option Nat) (v : AV) : Tm := match d with | some d => upd τ d v | none => τ
theorem upd_comm {τ : Tm} {d d' : Option Nat} {v v' : AV} (hn : ∀ x, d = some x → d' ≠ some x) : updO (updO τ d v) d' v' = updO (updO τ d' v') d v := by
  cases d with
  | none => rfl
  | some d => cases d' with
    | none => rfl
    | some d' =>
      have : d ≠ d' := fun e => hn d rfl (by rw [e])
      funext i
      simp only [updO, upd]
      by_cases h1 : i = d' <;> by_cases h2 : i = d <;> simp [h1, h2] <;> omega

/-! ### One operation -/
def opP (P : Program) (D : DTab) (all : List Oper) (τ : Tm) (H : Hp) (b : Nat) (o : Oper) : Option (AV × Eff) :=
  match wants all τ [] o with
  | some true => bif acts o.op then actE P D (ev τ []) H b o.op else (pureK P (ev τ []) H o.op some).map fun v => (v, EF (footP P (ev τ []) o.op))
  | some false => some (.tup [], E0)
  | none => none
theorem pureK_congr {r r' : Operand → AV} {H : Hp} {o : Op} (hs : ∀ x ∈ o.operands, r x = r' x) (k : K β) : pureK P r H o k = pureK P r' H o k := by
  have pairs : ∀ {γ : Type} (g : Nat → γ) (ps : Array (Nat × Operand)), (∀ x ∈ ps.map (·.2), r x = r' x) → (ps.toList.map fun p => (g p.1, r p.2)) = (ps.toList.map fun p => (g p.1, r' p.2)) := fun g ps hp =>
    List.map_congr_left fun p hm => by rw [hp p.2 (Array.mem_map.2 ⟨p, Array.mem_def.2 hm, rfl⟩)]
  have lst : ∀ (xs : Array Operand), (∀ x ∈ xs, r x = r' x) → xs.toList.map r = xs.toList.map r' := fun xs hp => List.map_congr_left fun x hm => hp x (Array.mem_def.2 hm)
  have opt : ∀ (x : Option Operand), (∀ y, x = some y → r y = r' y) → x.map r = x.map r' := by
    intro x hx; cases x with
    | none => rfl
    | some y => simp [hx y rfl]
  cases o <;> simp only [Op.operands] at hs <;> simp only [pureK]
  case build ty ps => rw [pairs (placeOf P ty) ps (fun x hx => hs x (by simpa using hx))]
  case makeFunc fn first caps => cases fn <;> first | rfl | (dsimp only; rw [lst caps (fun x hx => hs x (by simp [hx]))])
  case slice ty x lo hi mx =>
    rw [hs x (by simp), opt lo (fun y hy => hs y (by simp [hy])), opt hi (fun y hy => hs y (by simp [hy])), opt mx (fun y hy => hs y (by simp [hy]))]
  case call c =>
    have ha : ∀ x ∈ c.args, r x = r' x := fun x hx => hs x (by simp [Call.operands, hx])
    have one : ∀ x y : Operand, c.args.toList = [x] → r x = r' x := fun x y e => ha x (Array.mem_def.2 (by rw [e]; simp))
    have two : ∀ x y : Operand, c.args.toList = [x, y] → r x = r' x ∧ r y = r' y := fun x y e => ⟨ha x (Array.mem_def.2 (by rw [e]; simp)), ha y (Array.mem_def.2 (by rw [e]; simp))⟩
    split
    · split
      · rename_i x ty e1 e2; rw [one x x e1]
      · rfl
    · split
      · rename_i x y e1; rw [(two x y e1).1, (two x y e1).2]
      · rfl
    · split
      · rename_i x y e1; rw [(two x y e1).1, (two x y e1).2]
      · rfl
    · rfl
  all_goals (first | rfl | (simp_all; done))
theorem footP_congr {r r' : Operand → AV} {o : Op} (hs : ∀ x ∈ o.operands, r x = r' x) : footP P r o = footP P r' o := by
  unfold footP
  cases o <;> simp only [Op.operands] at hs <;> dsimp only
  case call c =>
    have ha : ∀ x ∈ c.args, r x = r' x := fun x hx => hs x (by simp [Call.operands, hx])
    split
    · rename_i x e; rw [ha x (Array.mem_def.2 (by rw [e]; simp))]
    · rfl
  all_goals (first | rfl | (simp_all; done))
theorem actE_congr {D : DTab} {r r' : Operand → AV} {H : Hp} {b : Nat} {o : Op} (hs : ∀ x ∈ o.operands, r x = r' x) : actE P D r H b o = actE P D r' H b o := by
  have pairs : ∀ (ps : Array (Nat × Operand)), (∀ x ∈ ps.map (·.2), r x = r' x) → (ps.toList.map fun p => (p.1, r p.2)) = (ps.toList.map fun p => (p.1, r' p.2)) := fun ps hp =>
    List.map_congr_left fun p hm => by rw [hp p.2 (Array.mem_map.2 ⟨p, Array.mem_def.2 hm, rfl⟩)]
  have lst : ∀ (xs : Array Operand), (∀ x ∈ xs, r x = r' x) → xs.toList.map r = xs.toList.map r' := fun xs hp => List.map_congr_left fun x hm => hp x (Array.mem_def.2 hm)
  cases o <;> simp only [Op.operands] at hs <;> simp only [actE]
  case buildSlice ty n ps => rw [pairs ps (fun x hx => hs x (by simpa using hx))]
  case makeMap ty x => cases x <;> rfl
  case call c =>
    have ha : ∀ x ∈ c.args, r x = r' x := fun x hx => hs x (by simp [Call.operands, hx])
    split
    · split
      · rename_i x y ty ty' e1 e2; rw [ha x (Array.mem_def.2 (by rw [e1]; simp)), ha y (Array.mem_def.2 (by rw [e1]; simp))]
      · rfl
    · rw [lst c.args ha]
    · rename_i f hnf hc
      rw [lst c.args ha, hs f (by simp [Call.operands, hc])]
    · rfl
  all_goals (first | rfl | (simp_all; done))
/-- Temporaries that are the same where it looks. -/
theorem opP_congr {D : DTab} {ops : Array Oper} {τ τ' : Tm} {H : Hp} {b : Nat} {o : Oper} (hs : ∀ d, d ∈ o.looksAt ops → τ d = τ' d) : opP P D ops.toList τ H b o = opP P D ops.toList τ' H b o := by
  have hw : wants ops.toList τ [] o = wants ops.toList τ' [] o := by
    unfold wants
    cases hg : o.guard with
    | none => rfl
    | some p =>
      obtain ⟨j, want⟩ := p
      dsimp only
      cases hd : (ops.toList[j]?).bind (·.dst) with
      | none => rfl
      | some d =>
        dsimp only [look]
        rw [hs d ?_]
        have : (ops[j]?).bind (·.dst) = some d := by simpa using hd
        simp [Oper.looksAt, hg, this]
  have hx : ∀ x ∈ o.op.operands, ev τ [] x = ev τ' [] x := by
    intro x hx
    cases x with
    | tmp i => exact hs i (List.mem_append_left _ (List.mem_filterMap.2 ⟨.tmp i, by simpa using hx, rfl⟩))
    | _ => rfl
  unfold opP
  rw [hw, actE_congr hx, pureK_congr hx, footP_congr hx]
theorem opP_local {D : DTab} (DL : ∀ f F, D f = some F → DLoc F) {all : List Oper} {τ : Tm} {H H' : Hp} {b : Nat} {o : Oper} {v : AV} {e : Eff} (hk : opP P D all τ H b o = some (v, e)) :
    (Agree e.foot H H' → opP P D all τ H' b o = some (v, e)) ∧ ∀ p ∈ e.puts, ∃ x, H[p.1]? = some x ∧ x ≠ .dead := by
  unfold opP at hk ⊢
  split at hk
  · cases ha : acts o.op with
    | true =>
      rw [ha] at hk
      simp only [cond_true] at hk ⊢
      exact act_local DL hk
    | false =>
      rw [ha] at hk
      simp only [cond_false, Option.map_eq_some_iff] at hk ⊢
      obtain ⟨u, h1, h2⟩ := hk
      injection h2 with h2 h3
      subst h2 h3
      exact ⟨fun hag => ⟨u, pure_local h1 hag, rfl⟩, by simp⟩
  · simp only [Option.some.injEq, Prod.mk.injEq] at hk
    obtain ⟨rfl, rfl⟩ := hk
    simp
  · cases hk

/-! ### A run over some of the operations, each with its effect -/
inductive PRun (P : Program) (D : DTab) (ops : Array Oper) (L : Nat → Eff × Nat) : List Nat → Tm → Hp → Tm → Hp → Prop
  | nil (τ : Tm) (H : Hp) : PRun P D ops L [] τ H τ H
  | cons {i : Nat} {l : List Nat} {τ τ' : Tm} {H H' : Hp} {o : Oper} {v : AV} (ho : ops[i]? = some o) (hv : opP P D ops.toList τ H (L i).2 o = some (v, (L i).1))
      (h : PRun P D ops L l (updO τ o.dst v) (apAt H (L i).2 (L i).1) τ' H') : PRun P D ops L (i :: l) τ H τ' H'
def entOf (x : Eff × Nat) : Ent := (x.1.foot, wrOf x.2 x.1)
/-- Two operations that do not mind each other. -/
def Com (ops : Array Oper) (L : Nat → Eff × Nat) (j i : Nat) : Prop := ∀ oj oi, ops[j]? = some oj → ops[i]? = some oi → oj.apart ops oi = true ∧ disj2 (entOf (L j)) (entOf (L i)) = true
theorem disj2_spec {a b : Ent} (hd : disj2 a b = true) : (∀ id, id ∈ a.2 → id ∉ b.1 ∧ id ∉ b.2) ∧ ∀ id, id ∈ b.2 → id ∉ a.1 := by
  simp only [disj2, Bool.and_eq_true, List.all_eq_true, Bool.not_eq_true', List.contains_eq_mem, decide_eq_false_iff_not] at hd
  exact hd
theorem bubble {D : DTab} (DL : ∀ f F, D f = some F → DLoc F) {ops : Array Oper} {L : Nat → Eff × Nat} {i : Nat} {B : List Nat} {τ' : Tm} {H' : Hp} : ∀ (A : List Nat) (τ : Tm) (H : Hp), PRun P D ops L (A ++ i :: B) τ H τ' H' → (∀ j ∈ A, Com ops L j i) →
    ∃ o v, ops[i]? = some o ∧ opP P D ops.toList τ H (L i).2 o = some (v, (L i).1) ∧ PRun P D ops L (A ++ B) (updO τ o.dst v) (apAt H (L i).2 (L i).1) τ' H'
  | [], τ, H, hr, _ => by
    cases hr with
    | cons ho hv hr => exact ⟨_, _, ho, hv, hr⟩
  | j :: A, τ, H, hr, hc => by
    cases hr with
    | @cons _ _ _ _ _ _ oj u hoj hu hr =>
      obtain ⟨oi, v, hoi, hv, hr'⟩ := bubble DL A _ _ hr (fun k hk => hc k (by simp [hk]))
      obtain ⟨hap, hdis⟩ := hc j (by simp) oj oi hoj hoi
      obtain ⟨a1, a2, a3⟩ := Oper.apart_spec hap
      obtain ⟨d1, d2⟩ := disj2_spec hdis
      have ht1 : ∀ (τ : Tm) (u : AV), opP P D ops.toList (updO τ oj.dst u) H (L i).2 oi = opP P D ops.toList τ H (L i).2 oi := fun τ u => opP_congr fun d hd => by
        cases hdj : oj.dst with
        | none => rfl
        | some x =>
          have : d ≠ x := fun e => a1 x hdj (by rw [← e]; exact hd)
          simp [updO, upd, this]
      have hv0 := (opP_local (H' := H) DL hv).1 (fun id hid x hx => by
        rw [apAt_other (fun hm => (d1 id hm).1 hid)] at hx; exact hx)
      rw [ht1] at hv0
      have hu0 := (opP_local (H' := apAt H (L i).2 (L i).1) DL hu).1 (fun id hid x hx => by
        rw [apAt_other (fun hm => d2 id hm hid)]; exact hx)
      have ht2 : opP P D ops.toList (updO τ oi.dst v) (apAt H (L i).2 (L i).1) (L j).2 oj = opP P D ops.toList τ (apAt H (L i).2 (L i).1) (L j).2 oj := opP_congr fun d hd => by
        cases hdi : oi.dst with
        | none => rfl
        | some x =>
          have : d ≠ x := fun e => a3 x hdi (by rw [← e]; exact hd)
          simp [updO, upd, this]
      refine ⟨oi, v, hoi, hv0, ?_⟩
      refine .cons hoj (ht2.trans hu0) ?_
      rw [← upd_comm (d := oj.dst) (d' := oi.dst) (fun x hx => a2 x hx), ← apAt_comm (fun id h1 h2 => (d1 id h2).2 h1)]
      exact hr'
end Go.AM
