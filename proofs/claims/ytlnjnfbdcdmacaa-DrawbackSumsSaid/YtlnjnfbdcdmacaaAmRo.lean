import Derived.Test.YtlnjnfbdcdmacaaAmBody
namespace Go.AM
open Go.RowKit
set_option linter.unusedVariables false
set_option linter.unusedSimpArgs false
set_option linter.constructorNameAsVariable false
variable {P : Program} {μ μ' : Mu} {h h' : Hp} {w w' : World}
/-- What was there stays as it is. -/
structure Ext (μ : Mu) (h : Hp) (μ' : Mu) (h' : Hp) : Prop where
  imm : ImmLe μ' μ
  obj : ∀ (id : Nat) (o : AObj), h[id]? = some o → h'[id]? = some o ∧ (o ≠ .dead → μ' id = μ id)
mutual
theorem VR.back (he : Ext μ h μ' h') : ∀ (a : AV) (v0 v : Value), VR μ h a v0 → VR μ' h' a v → VR μ h a v
  | .u, _, _, _, _ => by simp [VR]
  | .s _, _, _, _, hv => by simpa [VR] using hv
  | .ptr id idx sub fr, v0, v, hv0, hv => by
    simp only [VR] at hv0 hv ⊢
    obtain ⟨a0, -, sz0, es0, own0, nil0, hid0, hl0, -⟩ := hv0
    obtain ⟨a, rfl, sz, es, own, nil, hid, hl, hc⟩ := hv
    obtain ⟨h1, h2⟩ := he.obj id _ hid0
    rw [h1] at hid
    injection hid with hid
    injection hid with e1 e2 e3 e4
    subst e1 e2 e3 e4
    exact ⟨a, rfl, _, _, _, _, hid0, hl, fun q => by rw [← h2 (by simp)]; exact hc q⟩
  | .sl sz id off len fr full, v0, v, hv0, hv => by
    simp only [VR] at hv0 hv ⊢
    obtain ⟨A0, c0, -, -, -, -, es0, own0, nil0, hid0, hl0, -⟩ := hv0
    obtain ⟨A, c, rfl, h1, h2, h3, es, own, nil, hid, hl, hc⟩ := hv
    obtain ⟨q1, q2⟩ := he.obj id _ hid0
    rw [q1] at hid
    injection hid with hid
    injection hid with e1 e2 e3 e4
    subst e2 e3 e4
    exact ⟨A, c, rfl, h1, h2, h3, _, _, _, hid0, hl, fun q => by rw [← q2 (by simp)]; exact hc q⟩
  | .mp id, v0, v, hv0, hv => by
    simp only [VR] at hv0 hv ⊢
    obtain ⟨kvs0, blk0, hid0, -, -⟩ := hv0
    obtain ⟨kvs, blk, hid, hm, rfl⟩ := hv
    obtain ⟨q1, q2⟩ := he.obj id _ hid0
    exact ⟨kvs0, blk, hid0, by rw [← q2 (by simp)]; exact hm, rfl⟩
  | .fn f caps, v0, v, hv0, hv => by
    simp only [VR] at hv0 hv ⊢
    obtain ⟨vs0, -, hc0⟩ := hv0
    obtain ⟨vs, rfl, hc⟩ := hv
    exact ⟨vs, rfl, VRs.back he caps _ _ hc0 hc⟩
  | .yl _, _, _, _, hv => by simpa [VR] using hv
  | .lst sz nil es, _, v, _, hv => by
    simp only [VR] at hv ⊢
    obtain ⟨A, c, rfl, h1, h2, h3, h4, h5, h6⟩ := hv
    refine ⟨A, c, rfl, h1, h2, h3, h4, h5, fun hp => ?_⟩
    obtain ⟨blk, o, vs, rfl, hi, hf, hc⟩ := h6 hp
    exact ⟨blk, o, vs, rfl, (he.imm _ hi).1, VRf.evo (Evo.nil he.imm) es _ hf, fun j u hu => ⟨(he.imm.cell hi _).trans (hc j u hu).1, (hc j u hu).2⟩⟩
  | .ep e sub, _, v, _, hv => by
    simp only [VR] at hv ⊢
    obtain ⟨blk, o, vs, rfl, hi, hf, hc⟩ := hv
    exact ⟨blk, o, vs, rfl, (he.imm _ hi).1, VRs.evo (Evo.nil he.imm) e _ hf, fun j u hu => ⟨(he.imm.cell hi _).trans (hc j u hu).1, (hc j u hu).2⟩⟩
  | .agg cs, v0, v, hv0, hv => by
    simp only [VR] at hv0 hv ⊢
    obtain ⟨vs0, -, hc0⟩ := hv0
    obtain ⟨vs, rfl, hc⟩ := hv
    exact ⟨vs, rfl, VRs.back he cs _ _ hc0 hc⟩
  | .tup cs, v0, v, hv0, hv => by
    simp only [VR] at hv0 hv ⊢
    obtain ⟨vs0, -, hc0⟩ := hv0
    obtain ⟨vs, rfl, hc⟩ := hv
    exact ⟨vs, rfl, VRs.back he cs _ _ hc0 hc⟩
theorem VRs.back (he : Ext μ h μ' h') : ∀ (as : List AV) (vs0 vs : List Value), VRs μ h as vs0 → VRs μ' h' as vs → VRs μ h as vs
  | [], _, _, _, hv => by simpa [VRs] using hv
  | a :: as, vs0, vs, hv0, hv => by
    simp only [VRs] at hv0 hv ⊢
    obtain ⟨v0, vs0', -, h3, h4⟩ := hv0
    obtain ⟨v, vs', rfl, h1, h2⟩ := hv
    exact ⟨v, vs', rfl, VR.back he a v0 v h3 h1, VRs.back he as vs0' vs' h4 h2⟩
end
theorem ORel.back (he : Ext μ h μ' h') {id : Nat} {o : AObj} (hid : h[id]? = some o) (H0 : ORel μ h w id o) (H : ORel μ' h' w' id o) : ORel μ h w' id o := by
  have hm : o ≠ .dead → μ' id = μ id := (he.obj id o hid).2
  cases o with
  | dead => trivial
  | map kvs =>
    obtain ⟨blk0, -, es0, c0, -, hl0, hes0⟩ := H0
    obtain ⟨blk, hmu, es, clock, hh, hl, hes⟩ := H
    refine ⟨blk, by rw [← hm (by simp)]; exact hmu, es, clock, hh, hl, fun i k a e h1 h2 => ?_⟩
    obtain ⟨p, q⟩ := hes i k a e h1 h2
    have hi : i < es0.size := by rw [← hl0]; exact (List.getElem?_eq_some_iff.1 h1).1
    obtain ⟨-, q0⟩ := hes0 i k a es0[i] h1 (by simp [hi])
    exact ⟨p, VR.back he _ _ _ q0 q⟩
  | arr sz es own nil =>
    refine ⟨H.1, ?_⟩
    have H02 := H0.2
    have H2 := H.2
    rw [hm (by simp)] at H2
    cases hmu : μ id with
    | virt A => rw [hmu] at H2; exact H2
    | real blk x c =>
      rw [hmu] at H2 H02
      obtain ⟨h1, h2, h3, h4, h5, h6⟩ := H2
      refine ⟨h1, h2, h3, h4, fun i e j a p q => ?_, h6⟩
      obtain ⟨v, r1, r2, r3⟩ := h5 i e j a p q
      obtain ⟨v0, -, -, r0⟩ := H02.2.2.2.2.1 i e j a p q
      exact ⟨v, r1, r2, VR.back he _ _ _ r0 r3⟩
/-- The places of the one, the blocks that nobody writes of the other. -/
def Mu.mix (μ μ' : Mu) : Mu := { μ' with loc := μ.loc }
theorem Evo.mix (hi : ImmLe μ μ') : Evo μ h (μ.mix μ') h := by
  refine ⟨hi, fun id o ho => ?_⟩
  cases o with
  | dead => trivial
  | map kvs => exact ⟨kvs, ho, rfl⟩
  | arr sz es own nil => exact ⟨es, nil, ho, Nat.le_refl _, fun _ => rfl⟩
/-- What a call has made and nobody needs. -/
theorem Step.forget {g : List AObj} (R : Rel μ h w) (S : Step μ h w μ' (h ++ g) w') : Step μ h w (μ.mix μ') h w' ∧ Ext (μ.mix μ') h μ' (h ++ g) := by
  have hin : ∀ i o, h[i]? = some o → (h ++ g)[i]? = some o := fun i o hi => by
    rw [List.getElem?_append_left (List.getElem?_eq_some_iff.1 hi).1]; exact hi
  have he : Ext (μ.mix μ') h μ' (h ++ g) := by
    refine ⟨fun k hk => ⟨hk, rfl⟩, ?_⟩
    intro id o ho
    refine ⟨hin _ _ ho, fun hd => ?_⟩
    have := S.evo.obj id o ho
    cases o with
    | dead => exact absurd rfl hd
    | map kvs => obtain ⟨_, _, h2⟩ := this; exact h2
    | arr sz es own nil =>
      obtain ⟨es', nil', h1, h2, h3⟩ := this
      rw [hin _ _ ho] at h1
      injection h1 with h1
      injection h1 with e1 e2 e3 e4
      exact h3 (by rw [e2])
  have hE : Evo μ h (μ.mix μ') h := Evo.mix S.evo.imm
  have hown : ∀ b, Own (μ.mix μ') h b → Own μ' (h ++ g) b := by
    rintro b ⟨id, o, x, c, h1, h2, h3⟩
    exact ⟨id, o, x, c, hin _ _ h1, h2, by rw [(he.obj id o h1).2 (by rintro rfl; simp [isOwn] at h2)]; exact h3⟩
  have hmu : ∀ i o b x c, h[i]? = some o → isOwn o = true → (μ.mix μ') i = .real b x c → μ' i = .real b x c := fun i o b x c h1 h2 h3 => by
    rw [(he.obj i o h1).2 (by rintro rfl; simp [isOwn] at h2)]; exact h3
  refine ⟨⟨⟨fun id o ho => ORel.back he ho (w := w) (ORel.mono hE rfl (fun _ _ _ _ => rfl) (Nat.le_refl _) (R.obj id o ho)) (S.rel.obj id o (hin _ _ ho)), ?_, ?_, ?_⟩, hE, S.frame, fun b hb => .inl hb, S.fresh⟩, he⟩
  · intro i j o p b x c y d hi hj hoi hpj hmi hmj
    exact S.rel.sep i j o p b x c y d (hin _ _ hi) (hin _ _ hj) hoi hpj (hmu _ _ _ _ _ hi hoi hmi) (hmu _ _ _ _ _ hj hpj hmj)
  · intro i sz es nil b x c hi hmi hO
    exact R.apart i sz es nil b x c hi hmi hO
  · intro k hk
    obtain ⟨h1, h2, h3⟩ := S.rel.imm k hk
    exact ⟨h1, h2, fun hO => h3 (hown k hO)⟩
/- No address of an object in it. -/
mutual
def plain : AV → Bool
  | .s _ | .lst .. | .ep .. | .yl _ => true
  | .agg cs | .tup cs | .fn _ cs => plains cs
  | .u | .ptr .. | .sl .. | .mp _ => false
def plains : List AV → Bool
  | [] => true
  | a :: as => plain a && plains as
end
mutual
theorem plain_VR (hi : ImmLe μ' μ) : ∀ {a : AV} (hp : plain a = true) {v : Value} (hv : VR μ' h' a v), VR μ h a v
  | .u, hp, _, _ => by simp [plain] at hp
  | .ptr .., hp, _, _ => by simp [plain] at hp
  | .sl .., hp, _, _ => by simp [plain] at hp
  | .mp _, hp, _, _ => by simp [plain] at hp
  | .s _, _, _, hv => by simpa [VR] using hv
  | .yl _, _, _, hv => by simpa [VR] using hv
  | .lst sz nil es, _, v, hv => by
    simp only [VR] at hv ⊢
    obtain ⟨A, c, rfl, h1, h2, h3, h4, h5, h6⟩ := hv
    refine ⟨A, c, rfl, h1, h2, h3, h4, h5, fun hp => ?_⟩
    obtain ⟨blk, o, vs, rfl, hk, hf, hc⟩ := h6 hp
    exact ⟨blk, o, vs, rfl, (hi _ hk).1, VRf.evo (Evo.nil hi) es _ hf, fun j u hu => ⟨(hi.cell hk _).trans (hc j u hu).1, (hc j u hu).2⟩⟩
  | .ep e sub, _, v, hv => by
    simp only [VR] at hv ⊢
    obtain ⟨blk, o, vs, rfl, hk, hf, hc⟩ := hv
    exact ⟨blk, o, vs, rfl, (hi _ hk).1, VRs.evo (Evo.nil hi) e _ hf, fun j u hu => ⟨(hi.cell hk _).trans (hc j u hu).1, (hc j u hu).2⟩⟩
  | .agg cs, hp, v, hv => by
    simp only [VR] at hv ⊢
    simp only [plain] at hp
    obtain ⟨vs, rfl, hc⟩ := hv
    exact ⟨vs, rfl, plain_VRs hi hp hc⟩
  | .tup cs, hp, v, hv => by
    simp only [VR] at hv ⊢
    simp only [plain] at hp
    obtain ⟨vs, rfl, hc⟩ := hv
    exact ⟨vs, rfl, plain_VRs hi hp hc⟩
  | .fn f cs, hp, v, hv => by
    simp only [VR] at hv ⊢
    simp only [plain] at hp
    obtain ⟨vs, rfl, hc⟩ := hv
    exact ⟨vs, rfl, plain_VRs hi hp hc⟩
theorem plain_VRs (hi : ImmLe μ' μ) : ∀ {as : List AV} (hp : plains as = true) {vs : List Value} (hv : VRs μ' h' as vs), VRs μ h as vs
  | [], _, _, hv => by simpa [VRs] using hv
  | a :: as, hp, _, hv => by
    simp only [plains, Bool.and_eq_true] at hp
    simp only [VRs] at hv ⊢
    obtain ⟨v, vs', rfl, h1, h2⟩ := hv
    exact ⟨v, vs', rfl, plain_VR hi hp.1 h1, plain_VRs hi hp.2 h2⟩
end
/-- A function that writes nothing of its caller's, and whose answer has no address in it. -/
structure Ro (F : Fun) (G : DFun) : Prop where
  quiet : ∀ args h base v e, G args h base = some (v, e) → e.puts = [] ∧ e.news = [] ∧ plain v = true
  local_ : ∀ args h base v e, G args h base = some (v, e) → ∀ H, Agree e.foot h H → G args H base = some (v, e)
  runs : ∀ args h base v e, G args h base = some (v, e) → ∃ g, F args h = some (v, h ++ g)
theorem Ro.loc {F : Fun} {G : DFun} (r : Ro F G) : DLoc G := ⟨r.local_, fun args h base v e hk p hp => by rw [(r.quiet _ _ _ _ _ hk).1] at hp; cases hp⟩
theorem forget_call {f : FuncId} {cargs : Array Value} {g : List AObj} {v : AV} (R : Rel μ h w) (hp : plain v = true) (hcall : Calls P f cargs w fun e w' => ∃ cv μ', e = .returned cv ∧ Step μ h w μ' (h ++ g) w' ∧ VR μ' (h ++ g) v cv) :
    Calls P f cargs w fun e w' => ∃ cv μ', e = .returned cv ∧ Step μ h w μ' h w' ∧ VR μ' h v cv := by
  refine Calls.mono hcall ?_
  rintro en w' ⟨cv, μ', rfl, hst, hv⟩
  obtain ⟨h1, h2⟩ := Step.forget R hst
  exact ⟨cv, _, rfl, h1, plain_VR h2.imm hp hv⟩
theorem Ro.calls {F : Fun} {G : DFun} (r : Ro F G) {f : FuncId} (hc : CSound P f F) : DCalls P f G := by
  intro args h base v e hk hd μ w cargs R hargs
  obtain ⟨g, hg⟩ := r.runs _ _ _ _ _ hk
  obtain ⟨q1, q2, q3⟩ := r.quiet _ _ _ _ _ hk
  obtain ⟨hgo, hcall⟩ := hc _ _ _ _ hg μ w cargs R hargs
  have he : apAt h base e = h := by simp [apAt, q1, q2]
  rw [he]
  exact ⟨hgo, forget_call R q3 hcall⟩
def updF (T : Tab) (f : Nat) (F : Fun) : Tab := fun g => if g = f then some F else T g
def updD (D : DTab) (f : Nat) (G : DFun) : DTab := fun g => if g = f then some G else D g
def T0 : Tab := fun _ => none
def D0 : DTab := fun _ => none
theorem TSound.zero : TSound P T0 := fun f F hF => by cases hF
theorem DSound.zero : DSound P D0 := ⟨fun f F hF => (by cases hF), fun f F hF => (by cases hF)⟩
theorem TSound.upd {T : Tab} (TS : TSound P T) {f : Nat} {F : Fun} (hc : CSound P f F) : TSound P (updF T f F) := by
  intro g G hG
  unfold updF at hG
  split at hG
  · rename_i e; subst e; injection hG with hG; subst hG; exact hc
  · exact TS g G hG
theorem DSound.upd {D : DTab} (DS : DSound P D) {f : Nat} {G : DFun} (hl : DLoc G) (hc : DCalls P f G) : DSound P (updD D f G) := by
  refine ⟨fun g G' hG => ?_, fun g G' hG => ?_⟩
  · unfold updD at hG
    split at hG
    · injection hG with hG; subst hG; exact hl
    · exact DS.loc g G' hG
  · unfold updD at hG
    split at hG
    · rename_i e; subst e; injection hG with hG; subst hG; exact hc
    · exact DS.calls g G' hG
end Go.AM
