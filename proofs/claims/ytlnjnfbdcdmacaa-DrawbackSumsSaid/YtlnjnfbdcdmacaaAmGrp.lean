import Derived.Test.YtlnjnfbdcdmacaaAmNat
namespace Go.AM.Grp
set_option linter.unusedVariables false
set_option linter.unusedSimpArgs false
variable {β : Type} {P : Program} {T : Tab}
/-! ### Groups are what their operations are -/
theorem map_same {α γ : Type} {f g : α → γ} {l : List α} (hx : ∀ x ∈ l, f x = g x) : l.map f = l.map g := List.map_congr_left hx
theorem pureK_congr {r r' : Operand → AV} {h : Hp} {o : Op} {k : K β} (hr : ∀ x ∈ o.operands.toList, r x = r' x) : pureK P r h o k = pureK P r' h o k := by
  cases o with
  | build ty parts =>
    have e : (parts.toList.map fun p => (placeOf P ty p.1, r p.2)) = (parts.toList.map fun p => (placeOf P ty p.1, r' p.2)) := map_same fun p hp => by
      rw [hr p.2 (by simp only [Op.operands]; exact List.mem_map.2 ⟨p, hp, rfl⟩)]
    simp only [pureK, e]
  | makeFunc fn first caps =>
    have e : caps.toList.map r = caps.toList.map r' := map_same fun p hp => hr p (by simp only [Op.operands, Array.toList_append]; exact List.mem_append.2 (.inr hp))
    cases fn <;> simp only [pureK, e]
  | slice ty x lo hi mx =>
    have e0 : r x = r' x := hr x (by simp [Op.operands])
    have e1 : lo.map r = lo.map r' := by cases lo <;> simp; exact hr _ (by simp [Op.operands])
    have e2 : hi.map r = hi.map r' := by cases hi <;> simp; exact hr _ (by simp [Op.operands])
    have e3 : mx.map r = mx.map r' := by cases mx <;> simp; exact hr _ (by simp [Op.operands])
    simp only [pureK, e0, e1, e2, e3]
  | call c =>
    have e : ∀ x ∈ c.args.toList, r x = r' x := fun x hx => hr x (by simp only [Op.operands, Call.operands, Array.toList_append]; exact List.mem_append.2 (.inr hx))
    simp only [pureK]
    split
    · split
      · rename_i x ty hx _
        rw [e x (by simp [hx])]
      · rfl
    · split
      · rename_i x y hx
        rw [e x (by simp [hx]), e y (by simp [hx])]
      · rfl
    · split
      · rename_i x y hx
        rw [e x (by simp [hx]), e y (by simp [hx])]
      · rfl
    · rfl
  | _ => simp [Op.operands] at hr <;> simp [pureK, hr]
theorem actE_congr {D : DTab} {r r' : Operand → AV} {h : Hp} {base : Nat} {o : Op} (hr : ∀ x ∈ o.operands.toList, r x = r' x) : actE P D r h base o = actE P D r' h base o := by
  cases o with
  | buildSlice ty len parts =>
    have e : (parts.toList.map fun p => (p.1, r p.2)) = (parts.toList.map fun p => (p.1, r' p.2)) := map_same fun p hp => by
      rw [hr p.2 (by simp only [Op.operands]; exact List.mem_map.2 ⟨p, hp, rfl⟩)]
    simp only [actE, e]
  | call c =>
    have e : ∀ x ∈ c.args.toList, r x = r' x := fun x hx => hr x (by simp only [Op.operands, Call.operands, Array.toList_append]; exact List.mem_append.2 (.inr hx))
    have e2 : c.args.toList.map r = c.args.toList.map r' := map_same e
    simp only [actE]
    split
    · split
      · rename_i x y _ _ hx _
        rw [e x (by simp [hx]), e y (by simp [hx])]
      · rfl
    · rw [e2]
    · rename_i f _ hc
      rw [e2, hr f (by simp [Op.operands, Call.operands, hc])]
    · rfl
  | makeMap ty x => cases x <;> rfl
  | _ => simp [Op.operands] at hr <;> simp [actE, hr]
theorem callO_congr {r r' : Operand → AV} {h : Hp} {o : Op} {k : AV → Hp → Option β} (hr : ∀ x ∈ o.operands.toList, r x = r' x) : callO T r h o k = callO T r' h o k := by
  cases o with
  | call c =>
    have e : ∀ x ∈ c.args.toList, r x = r' x := fun x hx => hr x (by simp only [Op.operands, Call.operands, Array.toList_append]; exact List.mem_append.2 (.inr hx))
    have e2 : c.args.toList.map r = c.args.toList.map r' := map_same e
    simp only [callO]
    split
    · rw [e2]
    · rename_i f _ hc
      rw [e2, hr f (by simp [Op.operands, Call.operands, hc])]
    · rfl
  | _ => rfl
theorem opK_congr {r r' : Operand → AV} {h : Hp} {o : Oper} {k : AV → Hp → Option β} (hr : ∀ x ∈ o.op.operands.toList, r x = r' x) : opK P T r h o k = opK P T r' h o k := by
  unfold opK
  rw [callO_congr hr, actE_congr hr, pureK_congr hr]
theorem opE_nat {r : Operand → AV} {h : Hp} {o : Oper} (k : AV → Hp → Option β) : opK P T r h o k = (opK P T r h o fun v h => some (v, h)).bind fun p => k p.1 p.2 := by
  unfold opK
  cases calls o.op with
  | true =>
    simp only [cond_true]
    have key : ∀ (F : Option Fun) (args : List AV), callK F args h k = (callK F args h fun v h => some (v, h)).bind fun p => k p.1 p.2 := fun F args => by
      unfold callK
      split <;> first | rfl | (split <;> rfl)
    unfold callO
    split
    · split
      · exact key _ _
      · unfold callVK
        split
        · exact key _ _
        · rfl
      · rfl
    · rfl
  | false =>
    simp only [cond_false]
    cases acts o.op with
    | true => simp only [cond_true, effK]; split <;> rfl
    | false =>
      simp only [cond_false]
      rw [pureK_nat P r h o.op (fun v => k v h), pureK_nat P r h o.op (fun v => some (v, h))]
      cases pureK P r h o.op some <;> rfl
theorem opE_mono {r : Operand → AV} {h : Hp} {o : Oper} {k k' : AV → Hp → Option β} {res : β} (hk : opK P T r h o k = some res) (hm : ∀ v h, k v h = some res → k' v h = some res) : opK P T r h o k' = some res := by
  rw [opE_nat] at hk ⊢
  obtain ⟨p, h1, h2⟩ := Option.bind_eq_some_iff.1 hk
  exact Option.bind_eq_some_iff.2 ⟨p, h1, hm _ _ h2⟩
theorem lookE_cons (t : Tm) (e : Env) (d : Nat) (v : AV) (i : Nat) : look t ((d, v) :: e) i = if i = d then v else look t e i := rfl
theorem lookE_base {t t' : Tm} {i : Nat} (ht : t i = t' i) : ∀ e : Env, look t e i = look t' e i
  | [] => ht
  | (d, v) :: e => by simp only [lookE_cons, lookE_base ht e]
theorem lookE_put {ks : List Nat} {t : Tm} {e : Env} {d : Option Nat} {v : AV} {i : Nat} (hi : i ∉ d.toList) : look (putT ks t d v) (putE e d v) i = look t e i := by
  cases d with
  | none => rfl
  | some d =>
    have hid : i ≠ d := by simpa using hi
    simp only [putE, lookE_cons, if_neg hid]
    refine lookE_base ?_ e
    simp only [putT]
    cases ks.contains d <;> simp [upd, hid]
theorem lookE_same {ks : List Nat} {t : Tm} {e e2 : Env} {d : Option Nat} {v : AV} {i : Nat} (hl : look t e i = look t e2 i) : look (putT ks t d v) (putE e d v) i = look (putT ks t d v) (putE e2 d v) i := by
  cases d with
  | none => exact hl
  | some d =>
    simp only [putE, lookE_cons]
    by_cases hid : i = d
    · simp [hid]
    · simp only [if_neg hid]
      have hb : putT ks t (some d) v i = t i := by
        simp only [putT]
        cases ks.contains d <;> simp [upd, hid]
      rw [lookE_base hb e, lookE_base hb e2, hl]
theorem putT_free {ks : List Nat} {t : Tm} {d : Option Nat} {v : AV} (hf : free ks d.toList = true) : putT ks t d v = t := by
  cases d with
  | none => rfl
  | some d =>
    have : ks.contains d = false := by simpa [free] using hf
    simp only [putT, this, cond_false]
def ER (S : List Nat) (t : Tm) (e e2 : Env) : Prop := ∀ i, i ∉ S → look t e i = look t e2 i
theorem sameG_eq {a b : Option (Nat × Bool)} (hs : sameG a b = true) : a = b := by
  cases a <;> cases b <;> simp_all [sameG]
  rename_i a b
  obtain ⟨h1, h2⟩ := hs
  cases a
  cases b
  simp_all
theorem evE_same {S : List Nat} {t : Tm} {e e2 : Env} (hE : ER S t e e2) {o : Op} (hn : noRef S o = true) : ∀ x ∈ o.operands.toList, ev t e x = ev t e2 x := by
  intro x hx
  have := List.all_eq_true.1 hn x hx
  cases x with
  | tmp i => exact hE i (by simpa using this)
  | _ => rfl
/-- The condition that everything at hand is under. -/
def CxOk (all : List Oper) (t : Tm) (e : Env) : Cx → Prop
  | none => True
  | some (j, want, d) => (all[j]?).bind (·.dst) = some d ∧ look t e d = .s (.bool want)
def opsL (all : List Oper) (l : List Nat) : List Oper := l.filterMap (all[·]?)
theorem opsL_append (all : List Oper) (a b : List Nat) : opsL all (a ++ b) = opsL all a ++ opsL all b := by simp [opsL]
theorem opsL_one {all : List Oper} {i : Nat} {o : Oper} (ho : all[i]? = some o) : opsL all [i] = [o] := by simp [opsL, ho]
theorem opsL_range (all : List Oper) : opsL all (List.range all.length) = all := by
  have : ∀ (l pre : List Oper), (List.range' pre.length l.length).filterMap ((pre ++ l)[·]?) = l := by
    intro l
    induction l with
    | nil => intro pre; simp
    | cons x l ih =>
      intro pre
      simp only [List.length_cons, List.range'_succ]
      rw [List.filterMap_cons]
      have h1 : (pre ++ x :: l)[pre.length]? = some x := by simp
      rw [h1]
      have := ih (pre ++ [x])
      simp only [List.length_append, List.length_cons, List.length_nil, Nat.zero_add, List.append_assoc, List.singleton_append] at this
      rw [this]
  have := this all []
  simpa [opsL, List.range_eq_range'] using this
theorem wants_cx {all : List Oper} {t : Tm} {e : Env} {o : Oper} {j d : Nat} {want : Bool} (hg : o.guard = some (j, want)) (hd : (all[j]?).bind (·.dst) = some d) : wants all t e o = wB (look t e d) want := by
  unfold wants
  rw [hg]
  simp [hd]
theorem and12 {a b c d e f g h i j k l : Bool} (hx : (a && b && c && d && e && f && g && h && i && j && k && l) = true) : a = true ∧ b = true ∧ c = true ∧ d = true ∧ e = true ∧ f = true ∧ g = true ∧ h = true ∧ i = true ∧ j = true ∧ k = true ∧ l = true := by
  simp only [Bool.and_eq_true] at hx
  obtain ⟨⟨⟨⟨⟨⟨⟨⟨⟨⟨⟨h1, h2⟩, h3⟩, h4⟩, h5⟩, h6⟩, h7⟩, h8⟩, h9⟩, h10⟩, h11⟩, h12⟩ := hx
  exact ⟨h1, h2, h3, h4, h5, h6, h7, h8, h9, h10, h11, h12⟩
/-- What a well-formed group has. -/
structure Gr (all : List Oper) (ks : List Nat) (ctx : Cx) (S I : List Nat) (j : Nat) (want : Bool) (d y z : Nat) (S1 I1 : List Nat) (p : Oper) : Prop where
  inn : ctx.isNone = true ∨ d ∈ I
  dS : d ∉ S
  dS1 : d ∉ S1
  dI1 : d ∉ I1
  fr : free ks I1 = true
  yI : y ∈ I1
  yS : y ∉ S1
  off : ctx.off (z :: (I1 ++ S1)) = true
  zo : z ∉ I1 ++ S1
  gd : p.guard = ctx.g
  frz : ctx.isNone = true ∨ free ks [z] = true
  dst : (all[j]?).bind (·.dst) = some d
  pdst : p.dst = some z
  form : (want = false ∧ p.op = .pick (.tmp d) (.const (.bool true)) (.tmp y)) ∨ (want = true ∧ p.op = .pick (.tmp d) (.tmp y) (.const (.bool false)))
theorem pickOf_some {all : List Oper} {j : Nat} {w : Bool} {p : Oper} {d y z : Nat} (hp : pickOf all j w p = some (d, y, z)) : (all[j]?).bind (·.dst) = some d ∧ p.dst = some z ∧ ((w = false ∧ p.op = .pick (.tmp d) (.const (.bool true)) (.tmp y)) ∨ (w = true ∧ p.op = .pick (.tmp d) (.tmp y) (.const (.bool false)))) := by
  unfold pickOf at hp
  split at hp <;> try (simp at hp; done)
  rename_i d' z' c a b h1 h2 h3
  cases hc : Nat.beq c d' with
  | false => rw [hc] at hp; cases hp
  | true =>
    rw [hc] at hp
    simp only [cond_true] at hp
    have hc' := Nat.eq_of_beq_eq_true hc
    subst hc'
    split at hp <;> try (simp at hp; done)
    · simp only [Option.some.injEq, Prod.mk.injEq] at hp
      obtain ⟨rfl, rfl, rfl⟩ := hp
      exact ⟨h1, h2, .inl ⟨rfl, h3⟩⟩
    · simp only [Option.some.injEq, Prod.mk.injEq] at hp
      obtain ⟨rfl, rfl, rfl⟩ := hp
      exact ⟨h1, h2, .inr ⟨rfl, h3⟩⟩
theorem wf1_grp {all : List Oper} {ks : List Nat} {ctx : Cx} {S I S' I' : List Nat} {j d y z pk : Nat} {want : Bool} {body : List RT} (hw : wf1 all ks ctx S I (.grp j want d y z body pk) = some (S', I')) :
    ∃ S1 I1 p, wfs all ks (some (j, want, d)) S [] body = some (S1, I1) ∧ all[pk]? = some p ∧ S' = I1 ++ S1 ∧ I' = z :: I ∧ Gr all ks ctx S I j want d y z S1 I1 p := by
  simp only [wf1] at hw
  split at hw <;> try (simp at hw; done)
  rename_i S1 I1 p hb hp
  split at hw
  · rename_i d' y' z' hpk
    rw [Bool.cond_eq_ite] at hw
    split at hw <;> try (simp at hw; done)
    rename_i hc
    simp only [Option.some.injEq, Prod.mk.injEq] at hw
    obtain ⟨rfl, rfl⟩ := hw
    obtain ⟨c1, c2, c3, c4, c5, c6, c7, c8, c9, c10, c11, c12⟩ := and12 hc
    simp only [Bool.and_eq_true] at c12
    obtain ⟨⟨q1, q2⟩, q3⟩ := c12
    have e1 := Nat.eq_of_beq_eq_true q1
    have e2 := Nat.eq_of_beq_eq_true q2
    have e3 := Nat.eq_of_beq_eq_true q3
    subst e1 e2 e3
    obtain ⟨p1, p2, p3⟩ := pickOf_some hpk
    refine ⟨S1, I1, p, hb, hp, rfl, rfl, ?_⟩
    exact ⟨by simpa using c1, by simpa using c2, by simpa using c3, by simpa using c4, c5, by simpa using c6, by simpa using c7, c8, by simpa using c9, sameG_eq c10, by simpa using c11, p1, p2, p3⟩
  · rw [Bool.cond_eq_ite] at hw
    split at hw <;> simp_all
theorem wf1_op {all : List Oper} {ks : List Nat} {ctx : Cx} {S I S' I' : List Nat} {i : Nat} (hw : wf1 all ks ctx S I (.op i) = some (S', I')) :
    ∃ o, all[i]? = some o ∧ S' = S ∧ I' = o.dst.toList ++ I ∧ o.guard = ctx.g ∧ noRef S o.op = true ∧ ctx.off o.dst.toList = true ∧ free S o.dst.toList = true ∧ (ctx.isNone = true ∨ free ks o.dst.toList = true) := by
  simp only [wf1] at hw
  split at hw <;> try (simp at hw; done)
  rename_i o ho
  rw [Bool.cond_eq_ite] at hw
  split at hw <;> try (simp at hw; done)
  rename_i hc
  simp only [Option.some.injEq, Prod.mk.injEq] at hw
  obtain ⟨rfl, rfl⟩ := hw
  simp only [Bool.and_eq_true] at hc
  obtain ⟨⟨⟨⟨c1, c2⟩, c3⟩, c4⟩, c5⟩ := hc
  exact ⟨o, ho, rfl, rfl, sameG_eq c1, c2, c3, c4, by simpa using c5⟩
mutual
theorem wf1_mono {all : List Oper} {ks : List Nat} : ∀ (r : RT) {ctx : Cx} {S I S' I' : List Nat}, wf1 all ks ctx S I r = some (S', I') → (∀ i, i ∈ S → i ∈ S') ∧ (∀ i, i ∈ I → i ∈ I')
  | .op i, ctx, S, I, S', I', hw => by
    obtain ⟨o, ho, rfl, rfl, -⟩ := wf1_op hw
    exact ⟨fun i hi => hi, fun i hi => List.mem_append.2 (.inr hi)⟩
  | .grp j want d y z body pk, ctx, S, I, S', I', hw => by
    obtain ⟨S1, I1, p, hbody, hp, rfl, rfl, G⟩ := wf1_grp hw
    exact ⟨fun i hi => List.mem_append.2 (.inr ((wfs_mono body hbody).1 i hi)), fun i hi => List.mem_cons_of_mem _ hi⟩
theorem wfs_mono {all : List Oper} {ks : List Nat} : ∀ (rs : List RT) {ctx : Cx} {S I S' I' : List Nat}, wfs all ks ctx S I rs = some (S', I') → (∀ i, i ∈ S → i ∈ S') ∧ (∀ i, i ∈ I → i ∈ I')
  | [], ctx, S, I, S', I', hw => by
    simp only [wfs, Option.some.injEq, Prod.mk.injEq] at hw
    obtain ⟨rfl, rfl⟩ := hw
    exact ⟨fun _ h => h, fun _ h => h⟩
  | r :: rs, ctx, S, I, S', I', hw => by
    simp only [wfs] at hw
    split at hw <;> try (simp at hw; done)
    rename_i S1 I1 h1
    obtain ⟨a1, a2⟩ := wf1_mono r h1
    obtain ⟨b1, b2⟩ := wfs_mono rs hw
    exact ⟨fun i hi => b1 i (a1 i hi), fun i hi => b2 i (a2 i hi)⟩
end
/-- Behind what is left out. -/
structure Sk (t : Tm) (e e' : Env) (d : Nat) (S' I' : List Nat) : Prop where
  any : ∀ i, look t e' i = look t e i ∨ look t e' i = .tup []
  tup : ∀ i ∈ I', look t e' i = .tup []
  out : ∀ i, i ∉ I' → i ∉ S' → look t e' i = look t e i
  cond : look t e' d = look t e d
/- A group that is not asked for. -/
mutual
theorem skip1 {all : List Oper} {ks : List Nat} {kk : St → Option β} {j d : Nat} {want : Bool} : ∀ (r : RT) {S I S' I' : List Nat} {t : Tm} {e : Env} {h : Hp}, wf1 all ks (some (j, want, d)) S I r = some (S', I') → (all[j]?).bind (·.dst) = some d → wB (look t e d) want = some false → (∀ i ∈ I, look t e i = .tup []) →
    ∃ e', (∀ rest, opsK P T ks all (opsL all (flat1 r) ++ rest) t e h kk = opsK P T ks all rest t e' h kk) ∧ Sk t e e' d S' I'
  | .op i, S, I, S', I', t, e, h, hw, hd, hb, hI => by
    obtain ⟨o, ho, rfl, rfl, hg, hn, hoff, hfS, hks⟩ := wf1_op hw
    have hfr : free ks o.dst.toList = true := by simpa using hks
    have hnd : d ∉ o.dst.toList := by simpa [Cx.off] using hoff
    have hpe : ∀ i, i ∉ o.dst.toList → look t (putE e o.dst (.tup [])) i = look t e i := fun i hi => by
      have := lookE_put (ks := ks) (t := t) (e := e) (v := .tup []) hi
      rwa [putT_free hfr] at this
    have hpi : ∀ i, i ∈ o.dst.toList → look t (putE e o.dst (.tup [])) i = .tup [] := fun i h1 => by
      cases hdd : o.dst with
      | none => rw [hdd] at h1; simp at h1
      | some x => rw [hdd] at h1; simp at h1; subst h1; simp [putE, lookE_cons]
    refine ⟨putE e o.dst (.tup []), fun rest => ?_, fun i => ?_, fun i hi => ?_, fun i hi _ => hpe i fun h1 => hi (List.mem_append.2 (.inl h1)), hpe d hnd⟩
    · rw [flat1, opsL_one ho, List.singleton_append, opsK, stepK]
      simp only [hg, Cx.g]
      rw [wants_cx hg hd, hb]
      simp only [gopK]
      rw [putT_free hfr]
    · by_cases h1 : i ∈ o.dst.toList
      · exact .inr (hpi i h1)
      · exact .inl (hpe i h1)
    · by_cases h1 : i ∈ o.dst.toList
      · exact hpi i h1
      · rw [hpe i h1]
        exact hI i ((List.mem_append.1 hi).resolve_left h1)
  | .grp j1 want1 d1 y z body pk, S, I, S', I', t, e, h, hw, hd, hb, hI => by
    obtain ⟨S1, I1, p, hbody, hp, rfl, rfl, G⟩ := wf1_grp hw
    have hin : d1 ∈ I := by simpa using G.inn
    have hd1 : look t e d1 = .tup [] := hI d1 hin
    obtain ⟨e1, r1, K⟩ := skips (kk := kk) body (t := t) (e := e) (h := h) hbody G.dst (by rw [hd1]; rfl) (fun i hi => by simp at hi)
    have hoff : d ∉ z :: (I1 ++ S1) := by simpa [Cx.off] using G.off
    have hdz : d ≠ z := fun q => hoff (by simp [q])
    have hdI : d ∉ I1 := fun q => hoff (by simp [q])
    have hdS : d ∉ S1 := fun q => hoff (by simp [q])
    have hzk : free ks (some z).toList = true := by simpa using G.frz
    have hld : look t e1 d = look t e d := K.out d hdI hdS
    refine ⟨(z, .tup []) :: e1, fun rest => ?_, fun i => ?_, fun i hi => ?_, fun i hi hS => ?_, ?_⟩
    · rw [flat1, opsL_append, List.append_assoc, r1, opsL_one hp, List.singleton_append, opsK, stepK]
      simp only [G.gd, Cx.g]
      rw [wants_cx G.gd hd, hld, hb]
      simp only [gopK]
      rw [G.pdst, putT_free hzk]
      rfl
    · rw [lookE_cons]
      split
      · exact .inr rfl
      · exact K.any i
    · rw [lookE_cons]
      split
      · rfl
      · rename_i hz
        have hiI : i ∈ I := (List.mem_cons.1 hi).resolve_left hz
        rcases K.any i with q | q
        · rw [q]; exact hI i hiI
        · exact q
    · rw [lookE_cons, if_neg (by intro hz; exact hi (by simp [hz]))]
      exact K.out i (fun q => hS (List.mem_append.2 (.inl q))) (fun q => hS (List.mem_append.2 (.inr q)))
    · rw [lookE_cons, if_neg hdz, hld]
theorem skips {all : List Oper} {ks : List Nat} {kk : St → Option β} {j d : Nat} {want : Bool} : ∀ (rs : List RT) {S I S' I' : List Nat} {t : Tm} {e : Env} {h : Hp}, wfs all ks (some (j, want, d)) S I rs = some (S', I') → (all[j]?).bind (·.dst) = some d → wB (look t e d) want = some false → (∀ i ∈ I, look t e i = .tup []) →
    ∃ e', (∀ rest, opsK P T ks all (opsL all (flats rs) ++ rest) t e h kk = opsK P T ks all rest t e' h kk) ∧ Sk t e e' d S' I'
  | [], S, I, S', I', t, e, h, hw, hd, hb, hI => by
    simp only [wfs, Option.some.injEq, Prod.mk.injEq] at hw
    obtain ⟨rfl, rfl⟩ := hw
    exact ⟨e, fun rest => by simp [flats, opsL], fun _ => .inl rfl, hI, fun _ _ _ => rfl, rfl⟩
  | r :: rs, S, I, S', I', t, e, h, hw, hd, hb, hI => by
    simp only [wfs] at hw
    split at hw <;> try (simp at hw; done)
    rename_i S1 I1 h1
    obtain ⟨e1, r1, K1⟩ := skip1 (kk := kk) r (t := t) (e := e) (h := h) h1 hd hb hI
    obtain ⟨e2, q1, K2⟩ := skips (kk := kk) rs (t := t) (e := e1) (h := h) hw hd (by rw [K1.cond]; exact hb) K1.tup
    obtain ⟨m1, m2⟩ := wfs_mono rs hw
    refine ⟨e2, fun rest => ?_, fun i => ?_, K2.tup, fun i hi hS => ?_, K2.cond.trans K1.cond⟩
    · rw [flats, opsL_append, List.append_assoc, r1, q1]
    · rcases K2.any i with q | q
      · rw [q]; exact K1.any i
      · exact .inr q
    · exact (K2.out i hi hS).trans (K1.out i (fun q => hi (m2 i q)) (fun q => hS (m1 i q)))
end
/-- What the gathered run hands on, the plain one can go on with. -/
def Next (P : Program) (T : Tab) (ks : List Nat) (all rest : List Oper) (ctx : Cx) (S' I' : List Nat) (t : Tm) (e : Env) (k : Tm → Env → Hp → Option β) (kk : St → Option β) (res : β) : Prop :=
  ∀ t' e' h' e2', k t' e' h' = some res → ER S' t' e' e2' → CxOk all t' e' ctx → (ctx.isNone = true ∨ t' = t) → (∀ i, i ∉ I' → i ∉ S' → look t' e' i = look t e i) → opsK P T ks all rest t' e2' h' kk = some res
mutual
theorem opT_sound {all : List Oper} {ks : List Nat} {kk : St → Option β} {res : β} : ∀ (r : RT) {ctx : Cx} {S I S' I' : List Nat} {t : Tm} {e e2 : Env} {h : Hp} {k : Tm → Env → Hp → Option β} {rest : List Oper}, wf1 all ks ctx S I r = some (S', I') → CxOk all t e ctx → ctx.off S = true → ER S t e e2 →
    opT P T ks all r t e h k = some res → Next P T ks all rest ctx S' I' t e k kk res → opsK P T ks all (opsL all (flat1 r) ++ rest) t e2 h kk = some res
  | .op i, ctx, S, I, S', I', t, e, e2, h, k, rest, hw, hc, hcS, hE, hk, hN => by
    obtain ⟨o, ho, rfl, rfl, hg, hn, hoff, hfS, hks⟩ := wf1_op hw
    simp only [opT, ho] at hk
    rw [opK_congr (evE_same hE hn)] at hk
    rw [flat1, opsL_one ho, List.singleton_append, opsK, stepK]
    have nx : ∀ v h1, k (putT ks t o.dst v) (putE e o.dst v) h1 = some res → opsK P T ks all rest (putT ks t o.dst v) (putE e2 o.dst v) h1 kk = some res := fun v h1 hv => by
      refine hN _ _ _ _ hv (fun i hi => lookE_same (hE i hi)) ?_ ?_ (fun i hi hS => lookE_put fun q => hi (List.mem_append.2 (.inl q)))
      · cases ctx with
        | none => trivial
        | some c =>
          obtain ⟨j, want, d⟩ := c
          have hnd : d ∉ o.dst.toList := by simpa [Cx.off] using hoff
          exact ⟨hc.1, (lookE_put hnd).trans hc.2⟩
      · exact hks.imp id fun q => putT_free q
    cases ctx with
    | none =>
      simp only [hg, Cx.g]
      exact opE_mono hk nx
    | some c =>
      obtain ⟨j, want, d⟩ := c
      have hnS : d ∉ S' := by simpa [Cx.off] using hcS
      simp only [hg, Cx.g]
      rw [wants_cx hg hc.1, ← hE d hnS, hc.2]
      simp only [wB, beq_self_eq_true, gopK]
      exact opE_mono hk nx
  | .grp j want d y z body pk, ctx, S, I, S', I', t, e, e2, h, k, rest, hw, hc, hcS, hE, hk, hN => by
    obtain ⟨S1, I1, p, hbody, hp, rfl, rfl, G⟩ := wf1_grp hw
    simp only [opT] at hk
    obtain ⟨m1, m2⟩ := wfs_mono body hbody
    -- the choice that closes the group
    have fin : ∀ (e3 : Env) (h1 : Hp) (v : AV), look t e3 d = look t e d → (∀ i, i ∉ I1 → i ∉ S1 → look t e3 i = look t e i) → pickK (look t e3 d) (ev t e3 (if want = true then .tmp y else .const (.bool true))) (ev t e3 (if want = true then .const (.bool false) else .tmp y)) some = some v → k (putT ks t (some z) v) ((z, v) :: e) h1 = some res →
        opsK P T ks all (p :: rest) t e3 h1 kk = some res := by
      intro e3 h1 v hd3 hout hv hkv
      have hop : opK P T (ev t e3) h1 p (fun v h => opsK P T ks all rest (putT ks t (some z) v) (putE e3 (some z) v) h kk) = some res := by
        have hn : opsK P T ks all rest (putT ks t (some z) v) ((z, v) :: e3) h1 kk = some res := by
          refine hN _ _ _ _ hkv (fun i hi => ?_) ?_ ?_ (fun i hi hS => ?_)
          · refine lookE_same (d := some z) (ks := ks) ?_
            exact (hout i (fun q => hi (List.mem_append.2 (.inl q))) (fun q => hi (List.mem_append.2 (.inr q)))).symm
          · cases ctx with
            | none => trivial
            | some c =>
              obtain ⟨j0, w0, d0⟩ := c
              have hoff : d0 ∉ z :: (I1 ++ S1) := by simpa [Cx.off] using G.off
              exact ⟨hc.1, (lookE_put (d := some z) (by simpa using fun q : d0 = z => hoff (by simp [q]))).trans hc.2⟩
          · exact G.frz.imp id fun q => putT_free (d := some z) (by simpa using q)
          · exact lookE_put (d := some z) (by simpa using fun q : i = z => hi (by simp [q]))
        rcases G.form with ⟨rfl, hform⟩ | ⟨rfl, hform⟩
        · simp only [opK, hform, calls, acts, cond_false, pureK]
          rw [pickK_nat]
          simp only [Bool.false_eq_true, if_false] at hv
          have hv' : pickK (ev t e3 (.tmp d)) (ev t e3 (.const (.bool true))) (ev t e3 (.tmp y)) some = some v := hv
          rw [hv']
          exact hn
        · simp only [opK, hform, calls, acts, cond_false, pureK]
          rw [pickK_nat]
          simp only [if_true] at hv
          have hv' : pickK (ev t e3 (.tmp d)) (ev t e3 (.tmp y)) (ev t e3 (.const (.bool false))) some = some v := hv
          rw [hv']
          exact hn
      rw [opsK, stepK]
      cases ctx with
      | none =>
        simp only [G.gd, Cx.g, G.pdst]
        exact hop
      | some c =>
        obtain ⟨j0, w0, d0⟩ := c
        have hoff : d0 ∉ z :: (I1 ++ S1) := by simpa [Cx.off] using G.off
        simp only [G.gd, Cx.g, G.pdst]
        rw [wants_cx G.gd hc.1, hout d0 (fun q => hoff (by simp [q])) (fun q => hoff (by simp [q])), hc.2]
        simp only [wB, beq_self_eq_true, gopK]
        exact hop
    rw [flat1, opsL_append, List.append_assoc, opsL_one hp, List.singleton_append]
    unfold grpK at hk
    split at hk <;> try (simp at hk; done)
    rename_i b hb
    cases hbw : b == want with
    | true =>
      rw [hbw] at hk
      simp only [cond_true] at hk
      have hbe : b = want := by simpa using hbw
      subst hbe
      refine opsT_sound body hbody (ctx := some (j, b, d)) ⟨G.dst, hb⟩ (by simpa [Cx.off] using G.dS) hE hk ?_
      intro t' e' h' e2' hk' hE' hc' ht' hout'
      have ht : t' = t := by simpa using ht'
      subst ht
      have hd2 : look t' e2' d = .s (.bool b) := (hE' d G.dS1).symm.trans hc'.2
      refine fin e2' h' (look t' e' y) (by rw [hd2, hb]) (fun i hi hS => (hE' i hS).symm.trans (hout' i hi hS)) ?_ hk'
      have hy : look t' e2' y = look t' e' y := (hE' y G.yS).symm
      rw [hd2]
      cases b <;> simp [pickK, ev, cv, gv, hy]
    | false =>
      rw [hbw] at hk
      simp only [cond_false] at hk
      have hd2 : look t e2 d = .s (.bool b) := (hE d G.dS).symm.trans hb
      obtain ⟨e3, r1, K⟩ := skips (P := P) (T := T) (kk := kk) body (t := t) (e := e2) (h := h) hbody G.dst (by rw [hd2]; simp [wB, hbw]) (fun i hi => by simp at hi)
      rw [r1]
      refine fin e3 h (.s (.bool b)) (by rw [K.cond, hd2, hb]) (fun i hi hS => (K.out i hi hS).trans (hE i fun q => hS (m1 i q)).symm) ?_ hk
      rw [K.cond, hd2]
      cases b <;> cases want <;> simp_all [pickK, ev, cv, gv]
theorem opsT_sound {all : List Oper} {ks : List Nat} {kk : St → Option β} {res : β} : ∀ (rs : List RT) {ctx : Cx} {S I S' I' : List Nat} {t : Tm} {e e2 : Env} {h : Hp} {k : Tm → Env → Hp → Option β} {rest : List Oper}, wfs all ks ctx S I rs = some (S', I') → CxOk all t e ctx → ctx.off S = true → ER S t e e2 →
    opsT P T ks all rs t e h k = some res → Next P T ks all rest ctx S' I' t e k kk res → opsK P T ks all (opsL all (flats rs) ++ rest) t e2 h kk = some res
  | [], ctx, S, I, S', I', t, e, e2, h, k, rest, hw, hc, hcS, hE, hk, hN => by
    simp only [wfs, Option.some.injEq, Prod.mk.injEq] at hw
    obtain ⟨rfl, rfl⟩ := hw
    simp only [opsT] at hk
    exact hN _ _ _ _ hk hE hc (.inr rfl) fun _ _ _ => rfl
  | r :: rs, ctx, S, I, S', I', t, e, e2, h, k, rest, hw, hc, hcS, hE, hk, hN => by
    simp only [wfs] at hw
    split at hw <;> try (simp at hw; done)
    rename_i S1 I1 h1
    obtain ⟨m1, m2⟩ := wfs_mono rs hw
    simp only [opsT] at hk
    rw [flats, opsL_append, List.append_assoc]
    refine opT_sound r h1 hc hcS hE hk ?_
    intro t' e' h' e2' hk' hE' hc' ht' hout'
    refine opsT_sound rs hw hc' (off1 r h1 hcS) hE' hk' ?_
    intro t'' e'' h'' e2'' q1 q2 q3 q4 q5
    refine hN _ _ _ _ q1 q2 q3 ?_ fun i hi hS => (q5 i hi hS).trans (hout' i (fun q => hi (m2 i q)) fun q => hS (m1 i q))
    rcases q4 with q | q
    · exact .inl q
    · exact ht'.imp id fun q' => q.trans q'
theorem off1 {all : List Oper} {ks : List Nat} : ∀ (r : RT) {ctx : Cx} {S I S' I' : List Nat}, wf1 all ks ctx S I r = some (S', I') → ctx.off S = true → ctx.off S' = true
  | .op i, ctx, S, I, S', I', hw, ho => by
    obtain ⟨o, _, rfl, _⟩ := wf1_op hw
    exact ho
  | .grp j want d y z body pk, ctx, S, I, S', I', hw, ho => by
    obtain ⟨S1, I1, p, hbody, hp, rfl, rfl, G⟩ := wf1_grp hw
    have := G.off
    cases ctx with
    | none => rfl
    | some c =>
      obtain ⟨j0, w0, d0⟩ := c
      simp only [Cx.off, List.contains_cons, Bool.not_or, Bool.and_eq_true] at this ⊢
      exact this.2
end
theorem regK_opsK {ks : List Nat} {ops : List Oper} {t : Tm} {h : Hp} {k : St → Option β} {res : β} (hk : regK P T ks ops t h k = some res) : opsK P T ks ops ops t [] h k = some res := by
  unfold regK at hk
  split at hk
  · rename_i tr htr
    unfold treeOf at htr
    cases hg : ops.all fun o => o.guard.isNone with
    | true => rw [hg] at htr; cases htr
    | false =>
      rw [hg] at htr
      simp only [cond_false] at htr
      obtain ⟨tr', htr'⟩ : ∃ tr', tr' = (parseT ops (ops.length + ops.length) none 0 0).1 := ⟨_, rfl⟩
      rw [← htr', Bool.cond_eq_ite] at htr
      split at htr <;> try (simp at htr; done)
      rename_i hc
      simp only [Option.some.injEq] at htr
      subst htr
      simp only [Bool.and_eq_true, beq_iff_eq] at hc
      obtain ⟨hf, hw⟩ := hc
      obtain ⟨⟨S', I'⟩, hw⟩ := Option.isSome_iff_exists.1 hw
      have := opsT_sound (kk := k) (rest := []) tr' hw (ctx := none) (e := []) (e2 := []) trivial rfl (fun i _ => rfl) hk (by
        intro t' e' h' e2' q1 q2 q3 q4 q5
        simpa [opsK] using q1)
      rw [hf, opsL_range, List.append_nil] at this
      exact this
  · exact hk
end Go.AM.Grp
