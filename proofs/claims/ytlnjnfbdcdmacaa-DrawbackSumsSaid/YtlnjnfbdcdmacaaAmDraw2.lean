import Derived.Test.YtlnjnfbdcdmacaaAmDraw
namespace Go.AM
open Go.RowKit
set_option linter.unusedVariables false
set_option linter.unusedSimpArgs false
set_option linter.constructorNameAsVariable false
variable {P : Program} {μ μ' : Mu} {h h' : Hp} {w w' : World} {β : Type} {ks : List Nat} {np nt : Nat}
/-! ### What must lie before -/
theorem befM_spec {bs : List Nat} {k : Nat} : ∀ (es : List Edge) (s : Nat), (es.foldl (fun s e => bif Region.binds .any e then s ||| (1 <<< e.on) ||| bs.getD e.on 0 else s) s).testBit k = true →
    s.testBit k = true ∨ ∃ e ∈ es, Region.binds .any e = true ∧ (k = e.on ∨ (bs.getD e.on 0).testBit k = true)
  | [], s, hk => .inl hk
  | e :: es, s, hk => by
    simp only [List.foldl_cons] at hk
    rcases befM_spec es _ hk with h1 | ⟨e', h1, h2⟩
    · cases hb : Region.binds .any e with
      | false => rw [hb] at h1; exact .inl h1
      | true =>
        rw [hb] at h1
        simp only [cond_true, Nat.testBit_or, Bool.or_eq_true] at h1
        rcases h1 with (h1 | h1) | h1
        · exact .inl h1
        · rw [Nat.one_shiftLeft, Nat.testBit_two_pow] at h1
          exact .inr ⟨e, by simp, hb, .inl (by have := of_decide_eq_true h1; exact this.symm)⟩
        · exact .inr ⟨e, by simp, hb, .inr h1⟩
    · exact .inr ⟨e', by simp [h1], h2⟩
theorem befs_prefix : ∀ (os : List Oper) (bs : List Nat), ∃ r, os.foldl (fun bs o => bs ++ [befM bs o]) bs = bs ++ r ∧ r.length = os.length
  | [], bs => ⟨[], by simp, rfl⟩
  | o :: os, bs => by
    obtain ⟨r, h1, h2⟩ := befs_prefix os (bs ++ [befM bs o])
    exact ⟨befM bs o :: r, by simp only [List.foldl_cons]; rw [h1]; simp, by simp [h2]⟩
theorem befs_at : ∀ (os : List Oper) (bs : List Nat) (i : Nat) (o : Oper), os[i]? = some o →
    (os.foldl (fun bs o => bs ++ [befM bs o]) bs).getD (bs.length + i) 0 = befM ((os.foldl (fun bs o => bs ++ [befM bs o]) bs).take (bs.length + i)) o
  | [], bs, i, o, hi => by simp at hi
  | o' :: os, bs, 0, o, hi => by
    simp at hi
    subst hi
    simp only [List.foldl_cons]
    obtain ⟨r, h1, h2⟩ := befs_prefix os (bs ++ [befM bs o'])
    rw [h1]
    simp [List.getD_eq_getElem?_getD]
  | o' :: os, bs, i + 1, o, hi => by
    simp only [List.foldl_cons]
    have := befs_at os (bs ++ [befM bs o']) i o (by simpa using hi)
    simp only [List.length_append, List.length_cons, List.length_nil, Nat.zero_add] at this
    rw [show bs.length + (i + 1) = bs.length + 1 + i by omega]
    exact this
theorem befs_length (os : List Oper) : (befs os).length = os.length := by
  obtain ⟨r, h1, h2⟩ := befs_prefix os []
  unfold befs
  rw [h1]
  simpa using h2
theorem befs_spec {os : List Oper} {i k : Nat} {o : Oper} (hi : os[i]? = some o) (hk : ((befs os).getD i 0).testBit k = true) :
    ∃ e ∈ o.after.toList, Region.binds .any e = true ∧ (k = e.on ∨ ((befs os).getD e.on 0).testBit k = true) := by
  have := befs_at os [] i o hi
  simp only [List.length_nil, Nat.zero_add] at this
  unfold befs at hk
  rw [this] at hk
  unfold befM at hk
  rcases befM_spec _ _ hk with h1 | ⟨e, h1, h2, h3⟩
  · simp at h1
  · refine ⟨e, h1, h2, h3.imp id fun h4 => ?_⟩
    simp only [List.getD_eq_getElem?_getD, List.getElem?_take] at h4 ⊢
    split at h4
    · exact h4
    · simp at h4
theorem mem_free2 {bs : List Nat} {i j : Nat} (hij : i < j) (hj : j < bs.length) (hb : (bs.getD j 0).testBit i = false) : (i, j) ∈ free2 bs := by
  simp only [free2, List.mem_flatMap, List.mem_range, List.mem_filterMap]
  exact ⟨j, hj, i, hij, by rw [hb]; rfl⟩
theorem okDraw_spec {ops : Array Oper} (hok : okDraw ops = true) : Region.noSelect ops = true ∧ (∀ i o e, ops[i]? = some o → e ∈ o.after.toList → Region.binds .any e = true → e.on < i) ∧
    ∀ i j oi oj, (i, j) ∈ free2 (befs ops.toList) → ops[i]? = some oi → ops[j]? = some oj → oi.apart ops oj = true := by
  simp only [okDraw, Bool.and_eq_true, List.all_eq_true] at hok
  obtain ⟨⟨h1, h2⟩, h3⟩ := hok
  refine ⟨h1, fun i o e hi he hb => ?_, fun i j oi oj hp hi hj => ?_⟩
  · have hm : (o, i) ∈ ops.toList.zipIdx := by
      rw [List.mem_zipIdx_iff_getElem?]; simpa using hi
    have := h2 _ hm e he
    rw [hb] at this
    simpa using this
  · have := h3 _ hp
    rw [hi, hj] at this
    exact this
theorem light {D : DTab} {all : List Oper} {τ : Tm} {H : Hp} {b : Nat} {o : Oper} {v : AV} {e : Eff} (hk : opP P D all τ H b o = some (v, e)) :
    (acts o.op = false → wrOf b e = []) ∧ (heavy P o = false → e.foot = []) := by
  unfold opP at hk
  split at hk
  · cases ha : acts o.op with
    | true => exact ⟨fun hc => (by cases hc), fun hc => (by simp [heavy, ha] at hc)⟩
    | false =>
      rw [ha] at hk
      simp only [cond_false, Option.map_eq_some_iff] at hk
      obtain ⟨u, h1, h2⟩ := hk
      injection h2 with h2 h3
      subst h2 h3
      exact ⟨fun _ => by simp [wrOf], fun hc => by simp [heavy, ha] at hc; simp [footP, hc]⟩
  · simp only [Option.some.injEq, Prod.mk.injEq] at hk
    obtain ⟨rfl, rfl⟩ := hk
    simp [wrOf]
  · cases hk

/-! ### The run in the text's order -/
theorem keep_put {t : Tm} {e : Env} {d : Option Nat} {v : AV} (hd : dstOk ks np nt d = true) (hk : ∀ i, ks.contains i = true ∨ i < np → t i = look t e i) :
    ∀ i, ks.contains i = true ∨ i < np → putT ks t d v i = look (putT ks t d v) (putE e d v) i := by
  intro i hi
  cases d with
  | none => exact hk i hi
  | some d =>
    simp only [dstOk, Bool.and_eq_true, Bool.or_eq_true, decide_eq_true_eq] at hd
    rw [look_put]
    cases hc : ks.contains d with
    | true =>
      rw [putT_in hc]
      simp only [upd]
      split
      · rfl
      · exact hk i hi
    | false =>
      rw [putT_out hc]
      have hne : i ≠ d := by
        rintro rfl
        rcases hi with hi | hi
        · rw [hc] at hi; cases hi
        · rcases hd.2 with h2 | h2
          · rw [hc] at h2; cases h2
          · omega
      rw [if_neg hne]
      exact hk i hi
theorem low_put {t : Tm} {d : Option Nat} {v : AV} (hl : ∀ i, ks.contains i = false → np ≤ i → t i = .u) : ∀ i, ks.contains i = false → np ≤ i → putT ks t d v i = .u := by
  intro i hi hn
  cases d with
  | none => exact hl i hi hn
  | some d =>
    cases hc : ks.contains d with
    | true =>
      rw [putT_in hc]
      simp only [upd]
      rw [if_neg (by rintro rfl; rw [hc] at hi; cases hi)]
      exact hl i hi hn
    | false => rw [putT_out hc]; exact hl i hi hn
theorem updO_look (t : Tm) (e : Env) (d : Option Nat) (v : AV) : look (putT ks t d v) (putE e d v) = updO (look t e) d v := by
  funext i
  cases d with
  | none => rfl
  | some d => rw [look_put]; rfl
theorem ev_look (t : Tm) (e : Env) : ev (look t e) [] = ev t e := by funext x; cases x <;> rfl
def tot (lg : List (Eff × Nat)) : Nat := (lg.map fun x => x.1.news.length).sum
theorem ap_length (h : Hp) (e : Eff) : (ap h e).length = h.length + e.news.length := by simp [ap, puts_length]
theorem effD_some {r : R} {h : Hp} {k : AV → Hp → Ent → Option β} {res : β} (hk : effD r h k = some res) : ∃ v e, r = some (v, e) ∧ k v (ap h e) (e.foot, wrOf h.length e) = some res := by
  unfold effD at hk
  split at hk
  · rename_i v e; exact ⟨v, e, rfl, hk⟩
  · cases hk
/-- One operation, seen from its run. -/
theorem stepD_some {D : DTab} (DL : ∀ f F, D f = some F → DLoc F) {all : List Oper} {t : Tm} {e : Env} {h : Hp} {o : Oper} {k : AV → Hp → Ent → Option β} {res : β} (hk : stepD P D all t e h o k = some res) :
    ∃ v ef, opP P D all (look t e) h h.length o = some (v, ef) ∧ k v (ap h ef) (entOf (ef, h.length)) = some res := by
  have run : opD P D (ev t e) h o k = some res → AM.wants all (look t e) [] o = some true → ∃ v ef, opP P D all (look t e) h h.length o = some (v, ef) ∧ k v (ap h ef) (entOf (ef, h.length)) = some res := by
    intro hk hw
    unfold opD at hk
    unfold opP
    rw [hw, ev_look]
    cases ha : acts o.op with
    | true =>
      rw [ha] at hk
      obtain ⟨v, ef, h1, h2⟩ := effD_some hk
      exact ⟨v, ef, h1, h2⟩
    | false =>
      rw [ha] at hk
      simp only [cond_false] at hk ⊢
      rw [pureK_nat] at hk
      obtain ⟨v, hv, hk⟩ := Option.bind_eq_some_iff.1 hk
      refine ⟨v, EF _, by rw [hv]; rfl, ?_⟩
      simpa [entOf, wrOf, ap] using hk
  unfold stepD at hk
  cases hg : o.guard with
  | none =>
    rw [hg] at hk
    exact run hk (by simp [AM.wants, hg])
  | some p =>
    rw [hg] at hk
    have hw : AM.wants all (look t e) [] o = AM.wants all t e o := rfl
    dsimp only at hk
    unfold gopD at hk
    split at hk
    · rename_i h1; exact run hk (by rw [hw, h1])
    · rename_i h1
      refine ⟨.tup [], E0, ?_, ?_⟩
      · unfold opP; rw [hw, h1]
      · simpa [entOf, wrOf, ap] using hk
    · cases hk
theorem opsD_run {D : DTab} (DL : ∀ f F, D f = some F → DLoc F) {ops : Array Oper} (hok : ops.toList.all (fun o => dstOk ks np nt o.dst) = true) {prs : List (Nat × Nat)} {k : St → Option β} {res : β} :
    ∀ (os : List Oper) (j : Nat), os = ops.toList.drop j → ∀ (t : Tm) (e : Env) (h : Hp) (lg : List Ent), opsD P D ks ops.toList prs os t e h lg k = some res →
      (∀ i, ks.contains i = true ∨ i < np → t i = look t e i) → (∀ i, ks.contains i = false → np ≤ i → t i = .u) →
      ∃ (lg2 : List (Eff × Nat)) (τ' t' : Tm) (h' : Hp), lg2.length = os.length ∧ disjAll prs (lg.reverse ++ lg2.map entOf) = true ∧ k (t', h') = some res ∧
        (∀ x ∈ lg2, h.length ≤ x.2) ∧ lg2.Pairwise (fun x y => x.2 + x.1.news.length ≤ y.2) ∧ (∀ x ∈ lg2, x.2 + x.1.news.length ≤ h.length + tot lg2) ∧
        (∀ i, ks.contains i = true ∨ i < np → t' i = τ' i) ∧ (∀ i, ks.contains i = false → np ≤ i → t' i = .u) ∧
        ∀ L : Nat → Eff × Nat, (∀ q x, lg2[q]? = some x → L (j + q) = x) → ∀ m, PRun P D ops L (List.range' j os.length) (look t e) (h ++ List.replicate (tot lg2 + m) .dead) τ' (h' ++ List.replicate m .dead)
  | [], j, hj, t, e, h, lg, hk, hkp, hlw => by
    simp only [opsD] at hk
    cases hd : disjAll prs lg.reverse with
    | false => rw [hd] at hk; cases hk
    | true =>
      rw [hd] at hk
      exact ⟨[], look t e, t, h, rfl, by simpa using hd, hk, by simp, by simp, by simp, hkp, hlw, fun L _ m => by simp [tot]; exact .nil _ _⟩
  | o :: os, j, hj, t, e, h, lg, hk, hkp, hlw => by
    have hlt : j < ops.toList.length := by
      rcases Nat.lt_or_ge j ops.toList.length with h1 | h1
      · exact h1
      · rw [List.drop_eq_nil_of_le h1] at hj; cases hj
    have hjo : ops[j]? = some o := by
      rw [List.drop_eq_getElem_cons hlt] at hj
      injection hj with h1 h2
      rw [h1]
      simp at hlt ⊢
    have hos : os = ops.toList.drop (j + 1) := by
      rw [List.drop_eq_getElem_cons hlt] at hj
      injection hj with h1 h2
    have hdo : dstOk ks np nt o.dst = true := List.all_eq_true.1 hok o (by
      have : ops.toList[j]? = some o := by simpa using hjo
      exact List.mem_of_getElem? this)
    simp only [opsD] at hk
    obtain ⟨v, ef, h1, h2⟩ := stepD_some DL hk
    obtain ⟨lg2, τ', t', h', g1, g2, g3, g4, g5, g6, g7, g8, g9⟩ := opsD_run DL hok os (j + 1) hos _ _ _ _ h2 (keep_put hdo hkp) (low_put hlw)
    rw [ap_length] at g4 g6
    refine ⟨(ef, h.length) :: lg2, τ', t', h', by simp [g1], ?_, g3, ?_, ?_, ?_, g7, g8, ?_⟩
    · simpa using g2
    · intro x hx
      rcases List.mem_cons.1 hx with rfl | hx
      · exact Nat.le_refl _
      · have := g4 x hx; omega
    · exact List.pairwise_cons.2 ⟨fun y hy => g4 y hy, g5⟩
    · intro x hx
      have ht : tot ((ef, h.length) :: lg2) = ef.news.length + tot lg2 := by simp [tot]
      rw [ht]
      rcases List.mem_cons.1 hx with rfl | hx
      · simp only; omega
      · have := g6 x hx; omega
    · intro L hL m
      have hL0 : L j = (ef, h.length) := by have := hL 0 _ rfl; simpa using this
      simp only [List.length_cons, List.range'_succ]
      have ht : tot ((ef, h.length) :: lg2) + m = ef.news.length + (tot lg2 + m) := by simp [tot]; omega
      rw [ht]
      have hloc := opP_local (H' := h ++ List.replicate (ef.news.length + (tot lg2 + m)) .dead) DL h1
      refine .cons (v := v) hjo ?_ ?_
      · rw [hL0]; exact hloc.1 (agree_pad _ _)
      · rw [hL0, ← updO_look]
        have := g9 L (fun q x hq => by have := hL (q + 1) x (by simpa using hq); rw [← this]; congr 1; omega) m
        rw [apAt_pad (fun p hp => let ⟨x, hx, _⟩ := hloc.2 p hp; step_lt hx)]
        exact this
end Go.AM
