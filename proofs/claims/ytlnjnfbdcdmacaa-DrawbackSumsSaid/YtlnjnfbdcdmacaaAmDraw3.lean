import Derived.Test.YtlnjnfbdcdmacaaAmDraw2
namespace Go.AM
open Go.RowKit
set_option linter.unusedVariables false
set_option linter.unusedSimpArgs false
set_option linter.constructorNameAsVariable false
variable {P : Program} {μ μ' : Mu} {h h' : Hp} {w w' : World} {β : Type} {ks : List Nat} {np nt : Nat}
/-- One operation under way, from its run. -/
theorem opP_sound {D : DTab} (DS : DSound P D) {ops : Array Oper} {τ : Tm} {H : Hp} {b : Nat} {o : Oper} {v : AV} {e : Eff} (hk : opP P D ops.toList τ H b o = some (v, e)) {a : Act} (R : Rel μ H w) (hval : ∀ i, VR μ H (τ i) (a.eval (.tmp i)))
    (hfr : ∀ j, j < e.news.length → H[b + j]? = some .dead) {n i : Nat} {Q : Exit → Act → World → Prop} (hi : ops[i]? = some o) {K : Act → World → Prop}
    (hK : ∀ μ' w' u, Step μ H w μ' (apAt H b e) w' → VR μ' (apAt H b e) v u → K (a.put o.dst u) w') : wpOpIn Fence.wide n P ops Q i K a w := by
  have hr : ∀ x, VR μ H (ev τ [] x) (a.eval x) := by
    intro x
    cases x with
    | tmp i => exact hval i
    | const v => simp only [ev, cv]; split <;> simp [VR, Act.eval, *]
    | global g => simp [ev, VR]
    | func f => simp [ev, VR, Act.eval, VRs]
  unfold wpOpIn
  simp only [hi]
  unfold opP at hk
  split at hk
  · rename_i hw
    rw [if_pos (wants_sound (e := []) hval hw)]
    cases ha : acts o.op with
    | false =>
      rw [ha] at hk
      simp only [cond_false, Option.map_eq_some_iff] at hk
      obtain ⟨u, h1, h2⟩ := hk
      injection h2 with h2 h3
      subst h2 h3
      obtain ⟨v, q1, q2⟩ := pure_sound (o := o) R hr h1
      exact op_out (h1 := H) ⟨μ, w, Step.refl R, .inl ⟨v, q1, q2⟩⟩ fun μ' w' u hst hvr => hK μ' w' u (by simpa [apAt] using hst) (by simpa [apAt] using hvr)
    | true =>
      rw [ha] at hk
      simp only [cond_true] at hk
      cases hc : calls o.op with
      | false => exact op_out (act_sound R hr hc hk hfr) hK
      | true =>
        have key : ∀ (c : Call) (x : Operand) (f : Nat) (caps : List AV) (cv : Array Value), o.op = .call c → c.callee = .value x → a.eval x = .func (.func f) #[] cv → VRs μ H caps cv.toList →
            callE (D f) (c.args.toList.map (ev τ []) ++ caps) H b = some (v, e) → o.wpIn Fence.wide n P a w K Q := by
          intro c x f caps cv ho hc hx hcv hk
          unfold callE at hk
          split at hk <;> try (simp at hk; done)
          rename_i F hF
          obtain ⟨hg, hcall⟩ := DS.calls f F hF _ _ _ _ _ hk hfr μ w (c.args.map a.eval ++ cv) R (by
            rw [Array.toList_append, Array.toList_map]
            exact VRs.append (VRs.map_ops hr _) hcv)
          refine op_enter (call_enter ho hc hx hg) hcall ?_
          rintro en w' ⟨u, μ', rfl, hst, hvr⟩
          exact ⟨u, rfl, hK _ _ _ hst hvr⟩
        unfold actE at hk
        cases ho : o.op <;> rw [ho] at hk hc <;> try (simp [calls] at hc; done)
        rename_i c
        dsimp only at hk
        split at hk <;> try (simp at hk; done)
        · rename_i hcal; simp [calls, hcal] at hc
        · rename_i f hcal
          exact key c _ f [] #[] ho hcal rfl (by simp [VRs]) (by simpa using hk)
        · rename_i f hnf hcal
          unfold callVE at hk
          split at hk <;> try (simp at hk; done)
          rename_i g caps hg
          have := hr f
          rw [hg] at this
          simp only [VR] at this
          obtain ⟨vs, hev, hvs⟩ := this
          exact key c f g caps vs ho hcal hev hvs hk
  · rename_i hw
    rw [if_neg (by rw [wants_sound (e := []) hval hw]; simp)]
    simp only [Option.some.injEq, Prod.mk.injEq] at hk
    obtain ⟨rfl, rfl⟩ := hk
    exact ⟨fun _ _ => trivial, hK _ _ _ (by simpa [apAt] using Step.refl R) (by simp [VR, VRs, undef])⟩
  · cases hk

theorem draw_any {D : DTab} (DS : DSound P D) {ops : Array Oper} (hok : ops.toList.all (fun o => dstOk ks np nt o.dst) = true) (hdr : okDraw ops = true) {L : Nat → Eff × Nat} {n : Nat} {Q : Exit → Act → World → Prop}
    (hcom : ∀ i j, (i, j) ∈ free2 (befs ops.toList) → Com ops L i j) (hasc : ∀ i j, i < j → j < ops.size → (L i).2 + (L i).1.news.length ≤ (L j).2) {τ' : Tm} {H' : Hp} :
    ∀ (fuel : Nat) (l : List Nat) (listed : Array Bool) (a : Act) (w : World) (μ : Mu) (τ : Tm) (H : Hp), fuel = l.length → listed.size = ops.size → (∀ i, i ∈ l ↔ i < ops.size ∧ listed.getD i true = false) → l.Pairwise (· < ·) →
      (∀ i k, i < ops.size → i ∉ l → ((befs ops.toList).getD i 0).testBit k = true → k ∉ l) → PRun P D ops L l τ H τ' H' → (∀ i, VR μ H (τ i) (a.eval (.tmp i))) → a.tmps.size = nt → a.defers = [] → Rel μ H w →
      (∀ i ∈ l, ∀ j, j < (L i).1.news.length → H[(L i).2 + j]? = some .dead) →
      (∀ a' w' μ', (∀ i, VR μ' H' (τ' i) (a'.eval (.tmp i))) → a'.tmps.size = nt → a'.defers = [] → Step μ H w μ' H' w' → Q .normal a' w') → wpAnyIn Fence.wide n P .any ops Q fuel listed a w := by
  obtain ⟨hns, hback, hapart⟩ := okDraw_spec hdr
  intro fuel
  induction fuel with
  | zero =>
    intro l listed a w μ τ H hf hsz hl hpw hcl hrun hval hnt hdf R hfr hQ
    have : l = [] := List.eq_nil_of_length_eq_zero hf.symm
    subst this
    cases hrun
    refine ⟨?_, hQ _ _ _ hval hnt hdf (Step.refl R)⟩
    apply List.eq_nil_iff_forall_not_mem.2
    intro i hi
    obtain ⟨h1, oj, h2, -⟩ := mem_ready.1 hi
    have hlt : i < ops.size := (Array.getElem?_eq_some_iff.1 h2).1
    exact absurd ((hl i).2 ⟨hlt, h1⟩) (by simp)
  | succ fuel ih =>
    intro l listed a w μ τ H hf hsz hl hpw hcl hrun hval hnt hdf R hfr hQ
    have hunl : ∀ k, k < ops.size → k ∉ l → listed.getD k false = true := by
      intro k hk hn
      have h1 : ¬ listed.getD k true = false := fun h => hn ((hl k).2 ⟨hk, h⟩)
      have h2 : k < listed.size := by omega
      simp [h2] at h1 ⊢
      exact h1
    refine ⟨fun hre => ?_, fun i hi => ?_⟩
    · exfalso
      cases l with
      | nil => simp at hf
      | cons i l =>
        obtain ⟨hlt, hun⟩ := (hl i).1 (by simp)
        have : i ∈ Region.ready .any ops listed := by
          refine mem_ready.2 ⟨hun, ops[i], by simp [hlt], fun e he hb => ?_⟩
          have hlt2 := hback i ops[i] e (by simp [hlt]) (Array.mem_def.1 he) hb
          refine hunl _ (by omega) fun hm => ?_
          rcases List.mem_cons.1 hm with h1 | h1
          · omega
          · have := (List.pairwise_cons.1 hpw).1 _ h1; omega
        rw [hre] at this
        cases this
    · obtain ⟨hun, oi, hoi, hall⟩ := mem_ready.1 hi
      have hlt : i < ops.size := (Array.getElem?_eq_some_iff.1 hoi).1
      have hmem : i ∈ l := (hl i).2 ⟨hlt, hun⟩
      have hbit : ∀ k, ((befs ops.toList).getD i 0).testBit k = true → k ∉ l := by
        intro k hk
        obtain ⟨e, he, hb, h3⟩ := befs_spec (i := i) (o := oi) (by simpa using hoi) hk
        have hltd := hall e (Array.mem_def.2 he) hb
        have hon : e.on < ops.size := by
          rcases Nat.lt_or_ge e.on listed.size with h1 | h1
          · omega
          · simp [Array.getElem?_eq_none h1] at hltd
        have hnot : e.on ∉ l := fun hm => by
          have := ((hl e.on).1 hm).2
          have h2 : e.on < listed.size := by omega
          simp [h2] at this hltd
          rw [this] at hltd
          cases hltd
        rcases h3 with rfl | h3
        · exact hnot
        · exact hcl e.on k hon hnot h3
      obtain ⟨A, B, rfl⟩ := List.append_of_mem hmem
      have hnd := hpw
      rw [List.pairwise_append] at hnd
      obtain ⟨hpA, hpB, hAB⟩ := hnd
      have hA : ∀ j ∈ A, j < i := fun j hj => hAB j hj i (by simp)
      have hB : ∀ j ∈ B, i < j := (List.pairwise_cons.1 hpB).1
      obtain ⟨o, v, ho, hv, hrun'⟩ := bubble DS.loc A _ _ hrun (fun j hj => hcom j i (mem_free2 (hA j hj) (by rw [befs_length]; simpa using hlt) (by
        cases hq : ((befs ops.toList).getD i 0).testBit j with
        | false => rfl
        | true => exact absurd (List.mem_append_left _ hj) (hbit j hq))))
      rw [hoi] at ho
      injection ho with ho
      subst ho
      have hdo : dstOk ks np nt oi.dst = true := List.all_eq_true.1 hok oi (by
        have : ops.toList[i]? = some oi := by simpa using hoi
        exact List.mem_of_getElem? this)
      refine opP_sound DS hv R hval (hfr i hmem) hoi fun μ1 w1 u hst hvr => ?_
      have hne : ∀ k, k ∈ A ++ B → k ≠ i := by
        intro k hk
        rcases List.mem_append.1 hk with hk | hk
        · have := hA k hk; omega
        · have := hB k hk; omega
      refine ih (A ++ B) _ (a.put oi.dst u) w1 μ1 _ _ ?_ (by simpa using hsz) ?_ ?_ ?_ hrun' ?_ ?_ ?_ hst.rel ?_ ?_
      · simp at hf ⊢; omega
      · intro k
        constructor
        · intro hk
          have hk2 : k ∈ A ++ i :: B := by
            rcases List.mem_append.1 hk with hk | hk
            · exact List.mem_append_left _ hk
            · exact List.mem_append_right _ (List.mem_cons_of_mem _ hk)
          obtain ⟨h1, h2⟩ := (hl k).1 hk2
          exact ⟨h1, by rw [getD_set_ne true (Ne.symm (hne k hk))]; exact h2⟩
        · rintro ⟨h1, h2⟩
          have hki : k ≠ i := by
            rintro rfl
            have : k < listed.size := by omega
            simp [this] at h2
          rw [getD_set_ne true (Ne.symm hki)] at h2
          have := (hl k).2 ⟨h1, h2⟩
          rcases List.mem_append.1 this with h3 | h3
          · exact List.mem_append_left _ h3
          · rcases List.mem_cons.1 h3 with h4 | h4
            · exact absurd h4 hki
            · exact List.mem_append_right _ h4
      · rw [List.pairwise_append]
        exact ⟨hpA, (List.pairwise_cons.1 hpB).2, fun x hx y hy => hAB x hx y (List.mem_cons_of_mem _ hy)⟩
      · intro k q hk hnk hq hm
        have hm2 : q ∈ A ++ i :: B := by
          rcases List.mem_append.1 hm with hm | hm
          · exact List.mem_append_left _ hm
          · exact List.mem_append_right _ (List.mem_cons_of_mem _ hm)
        by_cases hki : k = i
        · subst hki; exact hbit q hq hm2
        · refine hcl k q hk (fun hm3 => hnk ?_) hq hm2
          rcases List.mem_append.1 hm3 with h3 | h3
          · exact List.mem_append_left _ h3
          · rcases List.mem_cons.1 h3 with h4 | h4
            · exact absurd h4 hki
            · exact List.mem_append_right _ h4
      · intro k
        cases hd : oi.dst with
        | none => exact VR.evo hst.evo _ _ (hval k)
        | some d =>
          rw [hd] at hdo
          simp only [dstOk, Bool.and_eq_true, decide_eq_true_eq] at hdo
          rw [eval_put _ _ _ (by rw [hnt]; exact hdo.1)]
          simp only [updO, upd]
          split
          · exact hvr
          · exact VR.evo hst.evo _ _ (hval k)
      · cases hd : oi.dst <;> simp [Act.put, hnt]
      · cases hd : oi.dst <;> simp [Act.put, hdf]
      · intro k hk j hj
        have hk2 : k ∈ A ++ i :: B := by
          rcases List.mem_append.1 hk with hk | hk
          · exact List.mem_append_left _ hk
          · exact List.mem_append_right _ (List.mem_cons_of_mem _ hk)
        have hdead := hfr k hk2 j hj
        rw [apAt_other, hdead]
        intro hm
        simp only [wrOf, List.mem_append, List.mem_map, List.mem_range] at hm
        rcases hm with ⟨p, hp, hpe⟩ | ⟨q, hq, hqe⟩
        · obtain ⟨x, hx, hxd⟩ := (opP_local (H' := H) DS.loc hv).2 p hp
          rw [hpe, hdead] at hx
          injection hx with hx
          exact hxd hx.symm
        · rcases Nat.lt_or_gt_of_ne (hne k hk) with h1 | h1
          · have := hasc k i h1 hlt; omega
          · have := hasc i k h1 ((hl k).1 hk2).1; omega
      · intro a' w' μ' q1 q2 q3 q4
        exact hQ a' w' μ' q1 q2 q3 (hst.trans q4)

theorem draw_sound {D : DTab} (DS : DSound P D) (hm : P.follows .mixedOrders = true) {id n : Nat} {ops : Array Oper} (hok : ops.toList.all (fun o => dstOk ks np nt o.dst) = true) (hdr : okDraw ops = true) {Q : Exit → Act → World → Prop} {k : St → Option β} {res : β}
    {t : Tm} {h : Hp} {a : Act} {w : World} {μ : Mu} (hk : opsD P D ks ops.toList (prsOf P ops.toList) ops.toList t [] h [] k = some res) (F : Fit ks np nt μ h t a) (R : Rel μ h w)
    (hQ : ∀ t' h' a' w' μ', k (t', h') = some res → Fit ks np nt μ' h' t' a' → Step μ h w μ' h' w' → Q .normal a' w') : (Code.region id ops true).wpIn Fence.wide n P Q a w := by
  refine wpIn_region_any hm ?_
  obtain ⟨hns, hback, hapart⟩ := okDraw_spec hdr
  obtain ⟨lg, τ', t', h', g1, g2, g3, g4, g5, g6, g7, g8, g9⟩ := opsD_run DS.loc hok ops.toList 0 rfl t [] h [] hk F.keep F.low
  have hn : lg.length = ops.size := by simpa using g1
  let L : Nat → Eff × Nat := fun i => lg.getD i (E0, 0)
  have hL : ∀ q x, lg[q]? = some x → L (0 + q) = x := by intro q x hq; simp [L, List.getD_eq_getElem?_getD, hq]
  have hrun := g9 L hL 0
  simp only [Nat.add_zero, List.replicate_zero, List.append_nil] at hrun
  have hLm : ∀ i, i < ops.size → L i ∈ lg := by
    intro i hi
    have : lg[i]? = some (L i) := by
      simp [L, List.getD_eq_getElem?_getD, show i < lg.length by omega]
    exact List.mem_of_getElem? this
  have hst0 := (Step.drew R).trans (Step.pad (Step.drew R).rel (tot lg))
  refine draw_any DS hok hdr (L := L) ?_ ?_ ops.size (List.range' 0 ops.toList.length) _ a w.drew μ (look t []) _ (by simp) (by simp) ?_ (List.pairwise_lt_range') ?_ hrun (fun i => VR.evo hst0.evo _ _ (F.val i)) F.size F.defers hst0.rel ?_ ?_
  · -- the pairs without an order
    intro i j hp oi oj hoi hoj
    refine ⟨hapart i j oi oj hp hoi hoj, ?_⟩
    have hli : i < ops.size := (Array.getElem?_eq_some_iff.1 hoi).1
    have hlj : j < ops.size := (Array.getElem?_eq_some_iff.1 hoj).1
    have ent : ∀ q, q < ops.size → (lg.map entOf).getD q ([], []) = entOf (L q) := by
      intro q hq
      simp [L, List.getD_eq_getElem?_getD, show q < lg.length by omega]
    -- what each of them does
    have hp' : ∀ (l : List Nat) (τ : Tm) (H : Hp) (τ' : Tm) (H' : Hp), PRun P D ops L l τ H τ' H' → ∀ q ∈ l, ∃ o τ H v, ops[q]? = some o ∧ opP P D ops.toList τ H (L q).2 o = some (v, (L q).1) := by
      intro l τ H τ' H' hr
      induction hr with
      | nil => intro q hq; cases hq
      | cons ho hv _ ih =>
        intro q hq
        rcases List.mem_cons.1 hq with rfl | hq
        · exact ⟨_, _, _, _, ho, hv⟩
        · exact ih q hq
    obtain ⟨oi', τi, Hi, vi, e1, r1⟩ := hp' _ _ _ _ _ hrun i (by simp [hli])
    obtain ⟨oj', τj, Hj, vj, e2, r2⟩ := hp' _ _ _ _ _ hrun j (by simp [hlj])
    rw [hoi] at e1; injection e1 with e1; subst e1
    rw [hoj] at e2; injection e2 with e2; subst e2
    have l1 := light r1
    have l2 := light r2
    cases hin : ((acts oi.op && heavy P oj) || (heavy P oi && acts oj.op)) with
    | true =>
      have hpm : (i, j) ∈ prsOf P ops.toList := by
        refine List.mem_filter.2 ⟨hp, ?_⟩
        simp only [show ops.toList[i]? = some oi by simpa using hoi, show ops.toList[j]? = some oj by simpa using hoj]
        exact hin
      simp only [disjAll, List.reverse_nil, List.nil_append, List.all_eq_true] at g2
      have := g2 _ hpm
      rw [ent i hli, ent j hlj] at this
      exact this
    | false =>
      simp only [Bool.or_eq_false_iff, Bool.and_eq_false_iff] at hin
      have hh : ∀ o : Oper, heavy P o = false → acts o.op = false := fun o hh => by simp [heavy] at hh; exact hh.1
      simp only [disj2, entOf]
      obtain ⟨h1, h2⟩ := hin
      rcases h1 with h1 | h1
      · rw [l1.1 h1]
        rcases h2 with h2 | h2
        · rw [l1.2 h2]; simp
        · rw [l2.1 h2]; simp
      · rw [l2.1 (hh _ h1), l2.2 h1]
        simp
  · intro i j hij hj
    have h1 : lg[i]? = some (L i) := by simp [L, List.getD_eq_getElem?_getD, show i < lg.length by omega]
    have h2 : lg[j]? = some (L j) := by simp [L, List.getD_eq_getElem?_getD, show j < lg.length by omega]
    have := List.pairwise_iff_getElem.1 g5 i j (by omega) (by omega) hij
    rw [List.getElem?_eq_getElem (by omega)] at h1 h2
    injection h1 with h1
    injection h2 with h2
    rw [h1, h2] at this
    exact this
  · intro i
    simp
    intro hi
    simp [hi]
  · intro i k hi hni
    exact absurd (by simp [hi]) hni
  · intro i hi j hj
    have hi' : i < ops.size := by simpa using hi
    have h1 := g4 _ (hLm i hi')
    have h2 := g6 _ (hLm i hi')
    rw [List.getElem?_append_right (by omega), List.getElem?_replicate, if_pos (by omega)]
  · intro a' w' μ' q1 q2 q3 q4
    refine hQ t' h' a' w' μ' g3 ⟨q2, q3, fun i => ?_, fun i _ => rfl, g8⟩ (hst0.trans q4)
    rw [look_nil]
    by_cases hi : ks.contains i = true ∨ i < np
    · rw [g7 i hi]; exact q1 i
    · rw [g8 i (by simpa using fun hc => hi (.inl (by simpa using hc))) (by omega)]; simp [VR]
end Go.AM
