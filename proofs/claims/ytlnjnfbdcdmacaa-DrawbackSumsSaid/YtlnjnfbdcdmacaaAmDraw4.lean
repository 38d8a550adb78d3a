import Derived.Test.YtlnjnfbdcdmacaaAmDraw3
namespace Go.AM
open Go.RowKit
set_option linter.unusedVariables false
set_option linter.unusedSimpArgs false
set_option linter.constructorNameAsVariable false
variable {P : Program} {μ μ' : Mu} {h h' : Hp} {w w' : World} {β : Type} {ks : List Nat} {np nt : Nat}
/-! A region that draws its order, in which whatever acts has its place among all that act or look: its calls go by the table of ordinary regions. -/
def opQ (P : Program) (T : Tab) (all : List Oper) (τ : Tm) (H : Hp) (o : Oper) : Option (AV × Hp) :=
  match wants all τ [] o with
  | some true => opK P T (ev τ []) H o fun v h => some (v, h)
  | some false => some (.tup [], H)
  | none => none
theorem callK_nat (F : Option Fun) (args : List AV) (h : Hp) (k : AV → Hp → Option β) : callK F args h k = (callK F args h fun v h => some (v, h)).bind fun p => k p.1 p.2 := by
  unfold callK
  cases F with
  | none => rfl
  | some F => dsimp only; cases F args h with
    | none => rfl
    | some p => rfl
theorem effK_nat (r : R) (h : Hp) (k : AV → Hp → Option β) : effK r h k = (effK r h fun v h => some (v, h)).bind fun p => k p.1 p.2 := by
  unfold effK
  cases r with
  | none => rfl
  | some p => rfl
theorem callO_nat (T : Tab) (r : Operand → AV) (h : Hp) (o : Op) (k : AV → Hp → Option β) : callO T r h o k = (callO T r h o fun v h => some (v, h)).bind fun p => k p.1 p.2 := by
  unfold callO
  split
  · split
    · exact callK_nat _ _ _ _
    · unfold callVK
      split
      · exact callK_nat _ _ _ _
      · rfl
    · rfl
  · rfl
theorem opK_nat (T : Tab) (r : Operand → AV) (h : Hp) (o : Oper) (k : AV → Hp → Option β) : opK P T r h o k = (opK P T r h o fun v h => some (v, h)).bind fun p => k p.1 p.2 := by
  unfold opK
  cases calls o.op with
  | true => exact callO_nat _ _ _ _ _
  | false =>
    cases acts o.op with
    | true => exact effK_nat _ _ _
    | false =>
      simp only [cond_false]
      rw [pureK_nat, pureK_nat P r h o.op (fun v => some (v, h))]
      cases pureK P r h o.op some <;> rfl
theorem callO_congr {T : Tab} {r r' : Operand → AV} {H : Hp} {o : Op} (hs : ∀ x ∈ o.operands, r x = r' x) (k : AV → Hp → Option β) : callO T r H o k = callO T r' H o k := by
  have lst : ∀ (xs : Array Operand), (∀ x ∈ xs, r x = r' x) → xs.toList.map r = xs.toList.map r' := fun xs hp => List.map_congr_left fun x hm => hp x (Array.mem_def.2 hm)
  cases o <;> simp only [Op.operands] at hs <;> simp only [callO]
  case call c =>
    have ha : ∀ x ∈ c.args, r x = r' x := fun x hx => hs x (by simp [Call.operands, hx])
    split
    · rw [lst c.args ha]
    · rename_i f hnf hc
      rw [lst c.args ha, hs f (by simp [Call.operands, hc])]
    · rfl
theorem opK_congr {T : Tab} {r r' : Operand → AV} {H : Hp} {o : Oper} (hs : ∀ x ∈ o.op.operands, r x = r' x) (k : AV → Hp → Option β) : opK P T r H o k = opK P T r' H o k := by
  unfold opK
  rw [callO_congr hs, actE_congr hs, pureK_congr hs]
theorem opQ_congr {T : Tab} {ops : Array Oper} {τ τ' : Tm} {H : Hp} {o : Oper} (hs : ∀ d, d ∈ o.looksAt ops → τ d = τ' d) : opQ P T ops.toList τ H o = opQ P T ops.toList τ' H o := by
  have hw : wants ops.toList τ [] o = wants ops.toList τ' [] o := by
    unfold wants
    cases hg : o.guard with
    | none => rfl
    | some p =>
      obtain ⟨j, want⟩ := p
      dsimp only
      cases hd : (ops.toList[j]?).bind (·.dst) with
      | none => rfl
      | some d =>
        dsimp only [look]
        rw [hs d ?_]
        have : (ops[j]?).bind (·.dst) = some d := by simpa using hd
        simp [Oper.looksAt, hg, this]
  have hx : ∀ x ∈ o.op.operands, ev τ [] x = ev τ' [] x := by
    intro x hx
    cases x with
    | tmp i => exact hs i (List.mem_append_left _ (List.mem_filterMap.2 ⟨.tmp i, by simpa using hx, rfl⟩))
    | _ => rfl
  unfold opQ
  rw [hw, opK_congr hx]
theorem calls_acts {o : Op} (h : calls o = true) : acts o = true := by
  unfold calls at h
  split at h <;> try (cases h; done)
  rename_i c
  unfold acts
  split at h
  · rename_i f hc; simp [hc]
  · cases h
/-- What does not act leaves the heap. -/
theorem opQ_still {T : Tab} {all : List Oper} {τ : Tm} {H H1 : Hp} {o : Oper} {v : AV} (ha : acts o.op = false) (hk : opQ P T all τ H o = some (v, H1)) : H1 = H := by
  have hc : calls o.op = false := by
    cases h : calls o.op with
    | false => rfl
    | true => rw [calls_acts h] at ha; cases ha
  unfold opQ at hk
  split at hk
  · unfold opK at hk
    rw [hc, ha] at hk
    simp only [cond_false] at hk
    rw [pureK_nat] at hk
    obtain ⟨u, _, h2⟩ := Option.bind_eq_some_iff.1 hk
    injection h2 with h2
    injection h2 with _ h2
    exact h2.symm
  · injection hk with hk
    injection hk with _ hk
    exact hk.symm
  · cases hk
/-- What neither acts nor looks does not mind the heap. -/
theorem opQ_light {T : Tab} {all : List Oper} {τ : Tm} {H H1 : Hp} {o : Oper} {v : AV} (hh : heavy P o = false) (hk : opQ P T all τ H o = some (v, H1)) (H2 : Hp) : opQ P T all τ H2 o = some (v, H2) := by
  simp only [heavy, Bool.or_eq_false_iff] at hh
  obtain ⟨ha, hl⟩ := hh
  have hc : calls o.op = false := by
    cases h : calls o.op with
    | false => rfl
    | true => rw [calls_acts h] at ha; cases ha
  unfold opQ at hk ⊢
  split at hk
  · unfold opK at hk ⊢
    rw [hc, ha] at hk ⊢
    simp only [cond_false] at hk ⊢
    rw [pureK_nat] at hk
    obtain ⟨u, h1, h2⟩ := Option.bind_eq_some_iff.1 hk
    injection h2 with h2
    injection h2 with h2 _
    subst h2
    rw [pureK_nat, pure_local h1 (by intro id hid; simp [footP, hl] at hid)]
    rfl
  · injection hk with hk
    injection hk with hk _
    rw [← hk]
  · cases hk
inductive QRun (P : Program) (T : Tab) (ops : Array Oper) : List Nat → Tm → Hp → Tm → Hp → Prop
  | nil (τ : Tm) (H : Hp) : QRun P T ops [] τ H τ H
  | cons {i : Nat} {l : List Nat} {τ τ' : Tm} {H H1 H' : Hp} {o : Oper} {v : AV} (ho : ops[i]? = some o) (hv : opQ P T ops.toList τ H o = some (v, H1))
      (h : QRun P T ops l (updO τ o.dst v) H1 τ' H') : QRun P T ops (i :: l) τ H τ' H'
def ComQ (P : Program) (ops : Array Oper) (j i : Nat) : Prop := ∀ oj oi, ops[j]? = some oj → ops[i]? = some oi → oj.apart ops oi = true ∧ ((acts oj.op && heavy P oi) || (heavy P oj && acts oi.op)) = false
theorem bubbleQ {T : Tab} {ops : Array Oper} {i : Nat} {B : List Nat} {τ' : Tm} {H' : Hp} : ∀ (A : List Nat) (τ : Tm) (H : Hp), QRun P T ops (A ++ i :: B) τ H τ' H' → (∀ j ∈ A, ComQ P ops j i) →
    ∃ o v H1, ops[i]? = some o ∧ opQ P T ops.toList τ H o = some (v, H1) ∧ QRun P T ops (A ++ B) (updO τ o.dst v) H1 τ' H'
  | [], τ, H, hr, _ => by
    cases hr with
    | cons ho hv hr => exact ⟨_, _, _, ho, hv, hr⟩
  | j :: A, τ, H, hr, hc => by
    cases hr with
    | @cons _ _ _ _ _ Hj _ oj u hoj hu hr =>
      obtain ⟨oi, v, Hi, hoi, hv, hr'⟩ := bubbleQ A _ _ hr (fun k hk => hc k (by simp [hk]))
      obtain ⟨hap, hdis⟩ := hc j (by simp) oj oi hoj hoi
      obtain ⟨a1, a2, a3⟩ := Oper.apart_spec hap
      have ht1 : ∀ (τ : Tm) (u : AV) (H : Hp), opQ P T ops.toList (updO τ oj.dst u) H oi = opQ P T ops.toList τ H oi := fun τ u H => opQ_congr fun d hd => by
        cases hdj : oj.dst with
        | none => rfl
        | some x =>
          have : d ≠ x := fun e => a1 x hdj (by rw [← e]; exact hd)
          simp [updO, upd, this]
      have ht2 : ∀ (H : Hp), opQ P T ops.toList (updO τ oi.dst v) H oj = opQ P T ops.toList τ H oj := fun H => opQ_congr fun d hd => by
        cases hdi : oi.dst with
        | none => rfl
        | some x =>
          have : d ≠ x := fun e => a3 x hdi (by rw [← e]; exact hd)
          simp [updO, upd, this]
      rw [ht1] at hv
      simp only [Bool.or_eq_false_iff, Bool.and_eq_false_iff] at hdis
      have hh : ∀ o : Oper, heavy P o = false → acts o.op = false := fun o hh => by simp [heavy] at hh; exact hh.1
      have comm : updO (updO τ oj.dst u) oi.dst v = updO (updO τ oi.dst v) oj.dst u := upd_comm (fun x hx => a2 x hx)
      -- neither acts, or one of them is light
      have hcase : (acts oj.op = false ∧ acts oi.op = false) ∨ heavy P oj = false ∨ heavy P oi = false := by
        obtain ⟨h1, h2⟩ := hdis
        rcases h1 with h1 | h1
        · rcases h2 with h2 | h2
          · exact .inr (.inl h2)
          · exact .inl ⟨h1, h2⟩
        · exact .inr (.inr h1)
      rcases hcase with ⟨h1, h2⟩ | h1 | h1
      · have e1 := opQ_still h1 hu
        subst e1
        have e2 := opQ_still h2 hv
        subst e2
        exact ⟨oi, v, _, hoi, hv, .cons hoj ((ht2 _).trans hu) (by rw [← comm]; exact hr')⟩
      · have e1 := opQ_still (hh _ h1) hu
        subst e1
        exact ⟨oi, v, _, hoi, hv, .cons hoj ((ht2 _).trans (opQ_light h1 hu Hi)) (by rw [← comm]; exact hr')⟩
      · have e2 := opQ_still (hh _ h1) hv
        subst e2
        exact ⟨oi, v, _, hoi, opQ_light h1 hv H, .cons hoj ((ht2 _).trans hu) (by rw [← comm]; exact hr')⟩
theorem opQ_sound {T : Tab} (TS : TSound P T) {ops : Array Oper} {τ : Tm} {H H1 : Hp} {o : Oper} {v : AV} (hk : opQ P T ops.toList τ H o = some (v, H1)) {a : Act} (R : Rel μ H w) (hval : ∀ i, VR μ H (τ i) (a.eval (.tmp i)))
    {n i : Nat} {Q : Exit → Act → World → Prop} (hi : ops[i]? = some o) {K : Act → World → Prop}
    (hK : ∀ μ' w' u, Step μ H w μ' H1 w' → VR μ' H1 v u → K (a.put o.dst u) w') : wpOpIn Fence.wide n P ops Q i K a w := by
  have hr : ∀ x, VR μ H (ev τ [] x) (a.eval x) := by
    intro x
    cases x with
    | tmp i => exact hval i
    | const v => simp only [ev, cv]; split <;> simp [VR, Act.eval, *]
    | global g => simp [ev, VR]
    | func f => simp [ev, VR, Act.eval, VRs]
  unfold wpOpIn
  simp only [hi]
  unfold opQ at hk
  split at hk
  · rename_i hw
    rw [if_pos (wants_sound (e := []) hval hw)]
    refine op_sound TS R hr hk fun v' h1 μ' w' u q1 q2 q3 => ?_
    injection q1 with q1
    injection q1 with e1 e2
    subst e1 e2
    exact hK _ _ _ q2 q3
  · rename_i hw
    rw [if_neg (by rw [wants_sound (e := []) hval hw]; simp)]
    simp only [Option.some.injEq, Prod.mk.injEq] at hk
    obtain ⟨rfl, rfl⟩ := hk
    exact ⟨fun _ _ => trivial, hK _ _ _ (Step.refl R) (by simp [VR, VRs, undef])⟩
  · cases hk
theorem chain_any {T : Tab} (TS : TSound P T) {ops : Array Oper} (hok : ops.toList.all (fun o => dstOk ks np nt o.dst) = true) (hdr : okDraw ops = true) {n : Nat} {Q : Exit → Act → World → Prop}
    (hcom : ∀ i j, (i, j) ∈ free2 (befs ops.toList) → ComQ P ops i j) {τ' : Tm} {H' : Hp} :
    ∀ (fuel : Nat) (l : List Nat) (listed : Array Bool) (a : Act) (w : World) (μ : Mu) (τ : Tm) (H : Hp), fuel = l.length → listed.size = ops.size → (∀ i, i ∈ l ↔ i < ops.size ∧ listed.getD i true = false) → l.Pairwise (· < ·) →
      (∀ i k, i < ops.size → i ∉ l → ((befs ops.toList).getD i 0).testBit k = true → k ∉ l) → QRun P T ops l τ H τ' H' → (∀ i, VR μ H (τ i) (a.eval (.tmp i))) → a.tmps.size = nt → a.defers = [] → Rel μ H w →
      (∀ a' w' μ', (∀ i, VR μ' H' (τ' i) (a'.eval (.tmp i))) → a'.tmps.size = nt → a'.defers = [] → Step μ H w μ' H' w' → Q .normal a' w') → wpAnyIn Fence.wide n P .any ops Q fuel listed a w := by
  obtain ⟨hns, hback, hapart⟩ := okDraw_spec hdr
  intro fuel
  induction fuel with
  | zero =>
    intro l listed a w μ τ H hf hsz hl hpw hcl hrun hval hnt hdf R hQ
    have : l = [] := List.eq_nil_of_length_eq_zero hf.symm
    subst this
    cases hrun
    refine ⟨?_, hQ _ _ _ hval hnt hdf (Step.refl R)⟩
    apply List.eq_nil_iff_forall_not_mem.2
    intro i hi
    obtain ⟨h1, oj, h2, -⟩ := mem_ready.1 hi
    have hlt : i < ops.size := (Array.getElem?_eq_some_iff.1 h2).1
    exact absurd ((hl i).2 ⟨hlt, h1⟩) (by simp)
  | succ fuel ih =>
    intro l listed a w μ τ H hf hsz hl hpw hcl hrun hval hnt hdf R hQ
    have hunl : ∀ k, k < ops.size → k ∉ l → listed.getD k false = true := by
      intro k hk hn
      have h1 : ¬ listed.getD k true = false := fun h => hn ((hl k).2 ⟨hk, h⟩)
      have h2 : k < listed.size := by omega
      simp [h2] at h1 ⊢
      exact h1
    refine ⟨fun hre => ?_, fun i hi => ?_⟩
    · exfalso
      cases l with
      | nil => simp at hf
      | cons i l =>
        obtain ⟨hlt, hun⟩ := (hl i).1 (by simp)
        have : i ∈ Region.ready .any ops listed := by
          refine mem_ready.2 ⟨hun, ops[i], by simp [hlt], fun e he hb => ?_⟩
          have hlt2 := hback i ops[i] e (by simp [hlt]) (Array.mem_def.1 he) hb
          refine hunl _ (by omega) fun hm => ?_
          rcases List.mem_cons.1 hm with h1 | h1
          · omega
          · have := (List.pairwise_cons.1 hpw).1 _ h1; omega
        rw [hre] at this
        cases this
    · obtain ⟨hun, oi, hoi, hall⟩ := mem_ready.1 hi
      have hlt : i < ops.size := (Array.getElem?_eq_some_iff.1 hoi).1
      have hmem : i ∈ l := (hl i).2 ⟨hlt, hun⟩
      have hbit : ∀ k, ((befs ops.toList).getD i 0).testBit k = true → k ∉ l := by
        intro k hk
        obtain ⟨e, he, hb, h3⟩ := befs_spec (i := i) (o := oi) (by simpa using hoi) hk
        have hltd := hall e (Array.mem_def.2 he) hb
        have hon : e.on < ops.size := by
          rcases Nat.lt_or_ge e.on listed.size with h1 | h1
          · omega
          · simp [Array.getElem?_eq_none h1] at hltd
        have hnot : e.on ∉ l := fun hm => by
          have := ((hl e.on).1 hm).2
          have h2 : e.on < listed.size := by omega
          simp [h2] at this hltd
          rw [this] at hltd
          cases hltd
        rcases h3 with rfl | h3
        · exact hnot
        · exact hcl e.on k hon hnot h3
      obtain ⟨A, B, rfl⟩ := List.append_of_mem hmem
      have hnd := hpw
      rw [List.pairwise_append] at hnd
      obtain ⟨hpA, hpB, hAB⟩ := hnd
      have hA : ∀ j ∈ A, j < i := fun j hj => hAB j hj i (by simp)
      have hB : ∀ j ∈ B, i < j := (List.pairwise_cons.1 hpB).1
      obtain ⟨o, v, H1, ho, hv, hrun'⟩ := bubbleQ A _ _ hrun (fun j hj => hcom j i (mem_free2 (hA j hj) (by rw [befs_length]; simpa using hlt) (by
        cases hq : ((befs ops.toList).getD i 0).testBit j with
        | false => rfl
        | true => exact absurd (List.mem_append_left _ hj) (hbit j hq))))
      rw [hoi] at ho
      injection ho with ho
      subst ho
      have hdo : dstOk ks np nt oi.dst = true := List.all_eq_true.1 hok oi (by
        have : ops.toList[i]? = some oi := by simpa using hoi
        exact List.mem_of_getElem? this)
      refine opQ_sound TS hv R hval hoi fun μ1 w1 u hst hvr => ?_
      have hne : ∀ k, k ∈ A ++ B → k ≠ i := by
        intro k hk
        rcases List.mem_append.1 hk with hk | hk
        · have := hA k hk; omega
        · have := hB k hk; omega
      refine ih (A ++ B) _ (a.put oi.dst u) w1 μ1 _ _ ?_ (by simpa using hsz) ?_ ?_ ?_ hrun' ?_ ?_ ?_ hst.rel ?_
      · simp at hf ⊢; omega
      · intro k
        constructor
        · intro hk
          have hk2 : k ∈ A ++ i :: B := by
            rcases List.mem_append.1 hk with hk | hk
            · exact List.mem_append_left _ hk
            · exact List.mem_append_right _ (List.mem_cons_of_mem _ hk)
          obtain ⟨h1, h2⟩ := (hl k).1 hk2
          exact ⟨h1, by rw [getD_set_ne true (Ne.symm (hne k hk))]; exact h2⟩
        · rintro ⟨h1, h2⟩
          have hki : k ≠ i := by
            rintro rfl
            have : k < listed.size := by omega
            simp [this] at h2
          rw [getD_set_ne true (Ne.symm hki)] at h2
          have := (hl k).2 ⟨h1, h2⟩
          rcases List.mem_append.1 this with h3 | h3
          · exact List.mem_append_left _ h3
          · rcases List.mem_cons.1 h3 with h4 | h4
            · exact absurd h4 hki
            · exact List.mem_append_right _ h4
      · rw [List.pairwise_append]
        exact ⟨hpA, (List.pairwise_cons.1 hpB).2, fun x hx y hy => hAB x hx y (List.mem_cons_of_mem _ hy)⟩
      · intro k q hk hnk hq hm
        have hm2 : q ∈ A ++ i :: B := by
          rcases List.mem_append.1 hm with hm | hm
          · exact List.mem_append_left _ hm
          · exact List.mem_append_right _ (List.mem_cons_of_mem _ hm)
        by_cases hki : k = i
        · subst hki; exact hbit q hq hm2
        · refine hcl k q hk (fun hm3 => hnk ?_) hq hm2
          rcases List.mem_append.1 hm3 with h3 | h3
          · exact List.mem_append_left _ h3
          · rcases List.mem_cons.1 h3 with h4 | h4
            · exact absurd h4 hki
            · exact List.mem_append_right _ h4
      · intro k
        cases hd : oi.dst with
        | none => exact VR.evo hst.evo _ _ (hval k)
        | some d =>
          rw [hd] at hdo
          simp only [dstOk, Bool.and_eq_true, decide_eq_true_eq] at hdo
          rw [eval_put _ _ _ (by rw [hnt]; exact hdo.1)]
          simp only [updO, upd]
          split
          · exact hvr
          · exact VR.evo hst.evo _ _ (hval k)
      · cases hd : oi.dst <;> simp [Act.put, hnt]
      · cases hd : oi.dst <;> simp [Act.put, hdf]
      · intro a' w' μ' q1 q2 q3 q4
        exact hQ a' w' μ' q1 q2 q3 (hst.trans q4)
theorem stepK_some {T : Tab} {all : List Oper} {t : Tm} {e : Env} {h : Hp} {o : Oper} {k : AV → Hp → Option β} {res : β} (hk : stepK P T all t e h o k = some res) :
    ∃ v h1, opQ P T all (look t e) h o = some (v, h1) ∧ k v h1 = some res := by
  have run : opK P T (ev t e) h o k = some res → AM.wants all (look t e) [] o = some true → ∃ v h1, opQ P T all (look t e) h o = some (v, h1) ∧ k v h1 = some res := by
    intro hk hw
    rw [opK_nat] at hk
    obtain ⟨⟨v, h1⟩, h2, h3⟩ := Option.bind_eq_some_iff.1 hk
    refine ⟨v, h1, ?_, h3⟩
    unfold opQ
    rw [hw, ev_look]
    exact h2
  unfold stepK at hk
  cases hg : o.guard with
  | none =>
    rw [hg] at hk
    exact run hk (by simp [AM.wants, hg])
  | some p =>
    rw [hg] at hk
    have hw : AM.wants all (look t e) [] o = AM.wants all t e o := rfl
    dsimp only at hk
    unfold gopK at hk
    split at hk
    · rename_i h1; exact run hk (by rw [hw, h1])
    · rename_i h1
      exact ⟨.tup [], h, by unfold opQ; rw [hw, h1], hk⟩
    · cases hk
theorem opsK_run {T : Tab} {ops : Array Oper} (hok : ops.toList.all (fun o => dstOk ks np nt o.dst) = true) {k : St → Option β} {res : β} :
    ∀ (os : List Oper) (j : Nat), os = ops.toList.drop j → ∀ (t : Tm) (e : Env) (h : Hp), opsK P T ks ops.toList os t e h k = some res →
      (∀ i, ks.contains i = true ∨ i < np → t i = look t e i) → (∀ i, ks.contains i = false → np ≤ i → t i = .u) →
      ∃ (τ' t' : Tm) (h' : Hp), k (t', h') = some res ∧ (∀ i, ks.contains i = true ∨ i < np → t' i = τ' i) ∧ (∀ i, ks.contains i = false → np ≤ i → t' i = .u) ∧ QRun P T ops (List.range' j os.length) (look t e) h τ' h'
  | [], j, hj, t, e, h, hk, hkp, hlw => ⟨look t e, t, h, hk, hkp, hlw, .nil _ _⟩
  | o :: os, j, hj, t, e, h, hk, hkp, hlw => by
    have hlt : j < ops.toList.length := by
      rcases Nat.lt_or_ge j ops.toList.length with h1 | h1
      · exact h1
      · rw [List.drop_eq_nil_of_le h1] at hj; cases hj
    have hjo : ops[j]? = some o := by
      rw [List.drop_eq_getElem_cons hlt] at hj
      injection hj with h1 h2
      rw [h1]
      simp at hlt ⊢
    have hos : os = ops.toList.drop (j + 1) := by
      rw [List.drop_eq_getElem_cons hlt] at hj
      injection hj with h1 h2
    have hdo : dstOk ks np nt o.dst = true := List.all_eq_true.1 hok o (by
      have : ops.toList[j]? = some o := by simpa using hjo
      exact List.mem_of_getElem? this)
    simp only [opsK] at hk
    obtain ⟨v, h1, h2, h3⟩ := stepK_some hk
    obtain ⟨τ', t', h', g1, g2, g3, g4⟩ := opsK_run hok os (j + 1) hos _ _ _ h3 (keep_put hdo hkp) (low_put hlw)
    refine ⟨τ', t', h', g1, g2, g3, ?_⟩
    simp only [List.length_cons, List.range'_succ]
    exact .cons hjo h2 (by rw [← updO_look]; exact g4)
theorem chain_sound {T : Tab} (TS : TSound P T) (hm : P.follows .mixedOrders = true) {id n : Nat} {ops : Array Oper} (hok : ops.toList.all (fun o => dstOk ks np nt o.dst) = true) (hdr : okDraw ops = true) (hp : (prsOf P ops.toList).isEmpty = true)
    {Q : Exit → Act → World → Prop} {k : St → Option β} {res : β} {t : Tm} {h : Hp} {a : Act} {w : World} {μ : Mu} (hk : opsK P T ks ops.toList ops.toList t [] h k = some res) (F : Fit ks np nt μ h t a) (R : Rel μ h w)
    (hQ : ∀ t' h' a' w' μ', k (t', h') = some res → Fit ks np nt μ' h' t' a' → Step μ h w μ' h' w' → Q .normal a' w') : (Code.region id ops true).wpIn Fence.wide n P Q a w := by
  refine wpIn_region_any hm ?_
  obtain ⟨hns, hback, hapart⟩ := okDraw_spec hdr
  obtain ⟨τ', t', h', g3, g7, g8, hrun⟩ := opsK_run hok ops.toList 0 rfl t [] h hk F.keep F.low
  have hst0 := Step.drew R
  refine chain_any TS hok hdr ?_ ops.size (List.range' 0 ops.toList.length) _ a w.drew μ (look t []) _ (by simp) (by simp) ?_ (List.pairwise_lt_range') ?_ hrun (fun i => F.val i) F.size F.defers hst0.rel ?_
  · intro i j hpm oi oj hoi hoj
    refine ⟨hapart i j oi oj hpm hoi hoj, ?_⟩
    cases hin : ((acts oi.op && heavy P oj) || (heavy P oi && acts oj.op)) with
    | false => rfl
    | true =>
      exfalso
      have hpm : (i, j) ∈ prsOf P ops.toList := by
        refine List.mem_filter.2 ⟨hpm, ?_⟩
        simp only [show ops.toList[i]? = some oi by simpa using hoi, show ops.toList[j]? = some oj by simpa using hoj]
        exact hin
      rw [List.isEmpty_iff] at hp
      rw [hp] at hpm
      cases hpm
  · intro i
    simp
    intro hi
    simp [hi]
  · intro i k hi hni
    exact absurd (by simp [hi]) hni
  · intro a' w' μ' q1 q2 q3 q4
    refine hQ t' h' a' w' μ' g3 ⟨q2, q3, fun i => ?_, fun i _ => rfl, g8⟩ (hst0.trans q4)
    rw [look_nil]
    by_cases hi : ks.contains i = true ∨ i < np
    · rw [g7 i hi]; exact q1 i
    · rw [g8 i (by simpa using fun hc => hi (.inl (by simpa using hc))) (by omega)]; simp [VR]
end Go.AM
