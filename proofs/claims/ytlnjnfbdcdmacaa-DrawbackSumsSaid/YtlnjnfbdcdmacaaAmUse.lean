import Derived.Test.YtlnjnfbdcdmacaaAmRo
namespace Go.AM
open Go.RowKit
set_option linter.unusedVariables false
set_option linter.unusedSimpArgs false
set_option linter.constructorNameAsVariable false
variable {P : Program} {μ μ' ν : Mu} {h h' : Hp} {w w' : World}
/-! ### Functions that are run on a heap of their own -/
def isS : AV → Bool
  | .s _ => true
  | _ => false
def okE (st : Bool) (es : List (List AV)) : Bool := es.all fun e => e.all fun c => bif st then isS c else plain c
/- Slices of the heap turn into slices by value. -/
mutual
def cvt (st : Bool) (h : Hp) : AV → Option AV
  | .s v => some (.s v)
  | .yl l => some (.yl l)
  | .lst sz nil es => bif st then none else some (.lst sz nil es)
  | .ep e sub => bif st then none else some (.ep e sub)
  | .sl sz id off len fr full => match h[id]? with
    | some (.arr sz' es own nil) => if es.length = fr ∧ sz' = sz ∧ off + len ≤ es.length ∧ own = true ∧ okE st ((es.drop off).take len) = true then some (.lst sz nil ((es.drop off).take len)) else none
    | _ => none
  | .agg cs => (cvts st h cs).map .agg
  | .tup cs => (cvts st h cs).map .tup
  | .fn f cs => (cvts st h cs).map (.fn f)
  | .u | .ptr .. | .mp _ => none
def cvts (st : Bool) (h : Hp) : List AV → Option (List AV)
  | [] => some []
  | a :: as => match cvt st h a, cvts st h as with
    | some a', some as' => some (a' :: as')
    | _, _ => none
end
/-- The form of a value: whatever; a slice of elements of so many cells; a struct, cell by cell. -/
inductive Sh where
  | o
  | l (sz : Nat)
  | a (cs : List (Option Nat))
def nrmC : Option Nat → AV → AV
  | some sz, .s (.slice none 0 0) => .lst sz true []
  | _, v => v
def nrmCs : List (Option Nat) → List AV → List AV
  | s :: ss, c :: cs => nrmC s c :: nrmCs ss cs
  | _, cs => cs
def nrm : Sh → AV → AV
  | .l sz, v => nrmC (some sz) v
  | .a ss, .agg cs => .agg (nrmCs ss cs)
  | _, v => v
def nrms : List Sh → List AV → List AV
  | s :: ss, c :: cs => nrm s c :: nrms ss cs
  | _, cs => cs
def nrmR : List Sh → AV → AV
  | ss, .tup cs => .tup (nrms ss cs)
  | s :: _, v => nrm s v
  | [], v => v
def closedX (shp shr : List Sh) (F : Fun) : Fun := fun args h =>
  match cvts false h args with
  | some as => match F (nrms shp as) [] with
    | some (v, g) => match cvt (!plains args) g v with
      | some v' => some (nrmR shr v', h)
      | none => none
    | none => none
  | none => none

theorem nrms_o : ∀ (n : Nat) (cs : List AV), nrms (List.replicate n .o) cs = cs
  | 0, cs => by cases cs <;> rfl
  | n + 1, [] => rfl
  | n + 1, c :: cs => by simp only [List.replicate_succ, nrms, nrms_o n cs]; rfl
theorem nrmR_rep (n : Nat) (v : AV) : nrmR (List.replicate n .o) v = v := by
  cases v with
  | tup cs => simp only [nrmR, nrms_o]
  | _ => cases n <;> rfl
theorem nrmC_VR {s : Option Nat} {a : AV} {v : Value} (hv : VR μ h a v) : VR μ h (nrmC s a) v := by
  unfold nrmC
  split
  · simp only [VR] at hv ⊢
    obtain ⟨-, rfl⟩ := hv
    exact ⟨none, 0, rfl, Nat.le_refl _, by unfold maxLen; omega, rfl, fun _ => rfl, fun e he => by simp at he, fun hp => by simp at hp⟩
  · exact hv
theorem nrmCs_VRs : ∀ (ss : List (Option Nat)) {as : List AV} {vs : List Value}, VRs μ h as vs → VRs μ h (nrmCs ss as) vs
  | [], as, vs, hv => by cases as <;> exact hv
  | s :: ss, [], vs, hv => hv
  | s :: ss, a :: as, vs, hv => by
    simp only [nrmCs, VRs] at hv ⊢
    obtain ⟨v, vs', rfl, h1, h2⟩ := hv
    exact ⟨v, vs', rfl, nrmC_VR h1, nrmCs_VRs ss h2⟩
theorem nrm_VR {s : Sh} {a : AV} {v : Value} (hv : VR μ h a v) : VR μ h (nrm s a) v := by
  unfold nrm
  split
  · exact nrmC_VR hv
  · simp only [VR] at hv ⊢
    obtain ⟨vs, rfl, hc⟩ := hv
    exact ⟨vs, rfl, nrmCs_VRs _ hc⟩
  · exact hv
theorem nrms_VRs : ∀ (ss : List Sh) {as : List AV} {vs : List Value}, VRs μ h as vs → VRs μ h (nrms ss as) vs
  | [], as, vs, hv => by cases as <;> exact hv
  | s :: ss, [], vs, hv => hv
  | s :: ss, a :: as, vs, hv => by
    simp only [nrms, VRs] at hv ⊢
    obtain ⟨v, vs', rfl, h1, h2⟩ := hv
    exact ⟨v, vs', rfl, nrm_VR h1, nrms_VRs ss h2⟩
theorem nrmR_VR {ss : List Sh} {a : AV} {v : Value} (hv : VR μ h a v) : VR μ h (nrmR ss a) v := by
  unfold nrmR
  split
  · simp only [VR] at hv ⊢
    obtain ⟨vs, rfl, hc⟩ := hv
    exact ⟨vs, rfl, nrms_VRs _ hc⟩
  · exact nrm_VR hv
  · exact hv
theorem VRs.split : ∀ {as bs : List AV} {vs : List Value}, VRs μ h (as ++ bs) vs → ∃ us ws, vs = us ++ ws ∧ VRs μ h as us ∧ VRs μ h bs ws
  | [], bs, vs, hv => ⟨[], vs, rfl, by simp [VRs], hv⟩
  | a :: as, bs, vs, hv => by
    simp only [List.cons_append, VRs] at hv
    obtain ⟨v, vs', rfl, h1, h2⟩ := hv
    obtain ⟨us, ws, rfl, h3, h4⟩ := VRs.split h2
    exact ⟨v :: us, ws, rfl, by simp only [VRs]; exact ⟨v, us, rfl, h1, h3⟩, h4⟩
theorem VRf.of_flat : ∀ {es : List (List AV)} {vs : List Value}, VRs μ h es.flatten vs → VRf μ h es vs
  | [], vs, hv => by simpa [VRf, VRs] using hv
  | e :: es, vs, hv => by
    rw [List.flatten_cons] at hv
    obtain ⟨us, ws, rfl, h1, h2⟩ := VRs.split hv
    simp only [VRf]
    exact ⟨us, ws, rfl, h1, VRf.of_flat h2⟩
theorem okE_VRs {st : Bool} (hI : st = false → ImmLe μ ν) : ∀ {as : List AV}, (as.all fun c => bif st then isS c else plain c) = true → ∀ {vs : List Value}, VRs μ h as vs → VRs ν [] as vs
  | [], _, vs, hv => by simpa [VRs] using hv
  | a :: as, ho, vs, hv => by
    simp only [List.all_cons, Bool.and_eq_true] at ho
    simp only [VRs] at hv ⊢
    obtain ⟨v, vs', rfl, h1, h2⟩ := hv
    refine ⟨v, vs', rfl, ?_, okE_VRs hI ho.2 h2⟩
    cases st with
    | false => exact plain_VR (hI rfl) ho.1 h1
    | true =>
      have := ho.1
      simp only [cond_true] at this
      cases a <;> simp [isS] at this
      simpa [VR] using h1
theorem okE_flat {st : Bool} : ∀ {es : List (List AV)}, okE st es = true → (es.flatten.all fun c => bif st then isS c else plain c) = true
  | [], _ => rfl
  | e :: es, ho => by
    simp only [okE, List.all_cons, Bool.and_eq_true] at ho
    rw [List.flatten_cons, List.all_append, Bool.and_eq_true]
    exact ⟨ho.1, okE_flat (by simpa [okE] using ho.2)⟩
mutual
theorem cvt_sound {st : Bool} (R : Rel μ h w) (hB : ∀ k, k < w.heap.size → ν.base.heap[k]? = w.heap[k]?) (hO : ∀ k, Own μ h k → ν.imm k) (hI : st = false → ∀ k, μ.imm k → ν.imm k) :
    ∀ {a : AV} {a' : AV} {v : Value}, VR μ h a v → cvt st h a = some a' → VR ν [] a' v
  | .u, a', v, hv, hk => by simp [cvt] at hk
  | .ptr .., a', v, hv, hk => by simp [cvt] at hk
  | .mp _, a', v, hv, hk => by simp [cvt] at hk
  | .s x, a', v, hv, hk => by simp only [cvt, Option.some.injEq] at hk; subst hk; simpa [VR] using hv
  | .yl x, a', v, hv, hk => by simp only [cvt, Option.some.injEq] at hk; subst hk; simpa [VR] using hv
  | .lst sz nil es, a', v, hv, hk => by
    cases st with
    | true => simp [cvt] at hk
    | false =>
      simp only [cvt, cond_false, Option.some.injEq] at hk
      subst hk
      exact plain_VR (fun k hk => ⟨hI rfl k hk, (hB k (R.imm k hk).1).trans (R.imm k hk).2.1⟩) rfl hv
  | .ep e sub, a', v, hv, hk => by
    cases st with
    | true => simp [cvt] at hk
    | false =>
      simp only [cvt, cond_false, Option.some.injEq] at hk
      subst hk
      exact plain_VR (fun k hk => ⟨hI rfl k hk, (hB k (R.imm k hk).1).trans (R.imm k hk).2.1⟩) rfl hv
  | .sl sz id off len fr full, a', v, hv, hk => by
    simp only [cvt] at hk
    split at hk <;> try (simp at hk; done)
    rename_i sz' es own nil ho
    split at hk <;> try (simp at hk; done)
    rename_i hc
    obtain ⟨hfr, rfl, hle, rfl, hok⟩ := hc
    simp only [Option.some.injEq] at hk
    subst hk
    simp only [VR] at hv ⊢
    obtain ⟨A, c, rfl, hlc, hA, -, es', own', nil', ho', -, hq⟩ := hv
    rw [ho] at ho'
    injection ho' with ho'
    injection ho' with e1 e2 e3 e4
    subst e2 e3 e4
    have hlen : ((es.drop off).take len).length = len := by simp; omega
    have hsl := hq hfr.symm
    have hO2 := R.obj _ _ ho
    have hsz : ∀ e ∈ (es.drop off).take len, e.length = sz' ∧ ∀ x ∈ e, okC x = true := fun e he => hO2.1 e (List.mem_of_mem_drop (List.mem_of_mem_take he))
    unfold SlOk at hsl
    split at hsl
    · rename_i blk o cap hmu
      obtain ⟨a, rfl, hcap, hne⟩ := hsl
      have hO3 := hO2.2
      rw [hmu] at hO3
      obtain ⟨hnil, -, hmx, hblk, -, hown⟩ := hO3
      obtain ⟨rfl, -⟩ := hown rfl
      refine ⟨some a, c, by rw [hlen], by rw [hlen]; exact hlc, by omega, by simp [hnil], fun h => by simp at h, hsz, fun hp => ?_⟩
      rw [hlen] at hp
      have hae := hne (by omega)
      subst hae
      obtain ⟨vs, g1, g2, g3, g4⟩ := arr_cells R ho hmu off len hle
      refine ⟨blk, 0 + off * sz', vs, rfl, hO blk ⟨id, _, 0, cap, ho, rfl, hmu⟩, VRf.of_flat (okE_VRs (fun hs k hk => ⟨hI hs k hk, (hB k (R.imm k hk).1).trans (R.imm k hk).2.1⟩) (okE_flat hok) g1), fun j u hu => ⟨?_, g3 u (List.mem_of_getElem? hu)⟩⟩
      exact (cell_same (hB blk hblk) _).trans (g4 j u hu)
    · rename_i A' hmu
      obtain ⟨rfl, rfl, -⟩ := hsl
      have hO3 := hO2.2
      rw [hmu] at hO3
      obtain ⟨rfl, hnil, -⟩ := hO3
      have h0 : len = 0 := by omega
      subst h0
      exact ⟨A, 0, by simp, by simp, by unfold maxLen; omega, hnil, fun _ => rfl, hsz, fun hp => by simp at hp⟩
  | .agg cs, a', v, hv, hk => by
    simp only [cvt, Option.map_eq_some_iff] at hk
    obtain ⟨cs', h1, rfl⟩ := hk
    simp only [VR] at hv ⊢
    obtain ⟨vs, rfl, hc⟩ := hv
    exact ⟨vs, rfl, cvts_sound R hB hO hI hc h1⟩
  | .tup cs, a', v, hv, hk => by
    simp only [cvt, Option.map_eq_some_iff] at hk
    obtain ⟨cs', h1, rfl⟩ := hk
    simp only [VR] at hv ⊢
    obtain ⟨vs, rfl, hc⟩ := hv
    exact ⟨vs, rfl, cvts_sound R hB hO hI hc h1⟩
  | .fn f cs, a', v, hv, hk => by
    simp only [cvt, Option.map_eq_some_iff] at hk
    obtain ⟨cs', h1, rfl⟩ := hk
    simp only [VR] at hv ⊢
    obtain ⟨vs, rfl, hc⟩ := hv
    exact ⟨vs, rfl, cvts_sound R hB hO hI hc h1⟩
theorem cvts_sound {st : Bool} (R : Rel μ h w) (hB : ∀ k, k < w.heap.size → ν.base.heap[k]? = w.heap[k]?) (hO : ∀ k, Own μ h k → ν.imm k) (hI : st = false → ∀ k, μ.imm k → ν.imm k) :
    ∀ {as : List AV} {as' : List AV} {vs : List Value}, VRs μ h as vs → cvts st h as = some as' → VRs ν [] as' vs
  | [], as', vs, hv, hk => by simp only [cvts, Option.some.injEq] at hk; subst hk; simpa [VRs] using hv
  | a :: as, as', vs, hv, hk => by
    simp only [cvts] at hk
    split at hk <;> try (simp at hk; done)
    rename_i a1 as1 q1 q2
    simp only [Option.some.injEq] at hk
    subst hk
    simp only [VRs] at hv ⊢
    obtain ⟨v, vs', rfl, h1, h2⟩ := hv
    exact ⟨v, vs', rfl, cvt_sound R hB hO hI h1 q1, cvts_sound R hB hO hI h2 q2⟩
end
mutual
theorem cvt_plain : ∀ {a : AV}, plain a = true → cvt false h a = some a
  | .u, hp => by simp [plain] at hp
  | .ptr .., hp => by simp [plain] at hp
  | .sl .., hp => by simp [plain] at hp
  | .mp _, hp => by simp [plain] at hp
  | .s _, _ => rfl
  | .yl _, _ => rfl
  | .lst .., _ => rfl
  | .ep .., _ => rfl
  | .agg cs, hp => by simp only [plain] at hp; simp [cvt, cvts_plain hp]
  | .tup cs, hp => by simp only [plain] at hp; simp [cvt, cvts_plain hp]
  | .fn f cs, hp => by simp only [plain] at hp; simp [cvt, cvts_plain hp]
theorem cvts_plain : ∀ {as : List AV}, plains as = true → cvts false h as = some as
  | [], _ => rfl
  | a :: as, hp => by
    simp only [plains, Bool.and_eq_true] at hp
    simp [cvts, cvt_plain hp.1, cvts_plain hp.2]
end
theorem Own.nil {b : Nat} (ho : Own μ [] b) : False := by obtain ⟨id, o, x, c, h1, _⟩ := ho; simp at h1
theorem Rel.nil (hi : ∀ k, μ.imm k → k < w.heap.size ∧ w.heap[k]? = μ.base.heap[k]?) : Rel μ [] w :=
  ⟨fun id o h => by simp at h, fun i j o p b x c y d h => by simp at h, fun i sz es nil b x c h => by simp at h, fun k hk => ⟨(hi k hk).1, (hi k hk).2, Own.nil⟩⟩
theorem Rel.own_lt (R : Rel μ h w) {b : Nat} (ho : Own μ h b) : b < w.heap.size := by
  obtain ⟨id, o, x, c, h1, h2, h3⟩ := ho
  exact ORel.blk_lt (R.obj id o h1) h3 (.inl h2)
/-- A call that owns nothing of its caller's leaves its caller's memory as it is. -/
theorem Rel.over (R : Rel μ h w) {ν : Mu} {g : Hp} (S : Frame (Own ν []) w w') {ξ : Mu} (hl : ξ.loc = μ.loc) (hi : ImmLe μ ξ) (hx : ∀ k, ξ.imm k → k < w'.heap.size ∧ w'.heap[k]? = ξ.base.heap[k]? ∧ ¬ Own μ h k) : Rel ξ h w' ∧ Evo μ h ξ h ∧ Frame (Own μ h) w w' := by
  have hb : ∀ k, k < w.heap.size → w'.heap[k]? = w.heap[k]? := fun k hk => S.block k hk Own.nil
  have hE : Evo μ h ξ h := by
    refine ⟨hi, fun id o ho => ?_⟩
    cases o with
    | dead => trivial
    | map kvs => exact ⟨kvs, ho, by rw [hl]⟩
    | arr sz es own nil => exact ⟨es, nil, ho, Nat.le_refl _, fun _ => by rw [hl]⟩
  have hOw : ∀ b, Own ξ h b → Own μ h b := by
    rintro b ⟨id, o, x, c, h1, h2, h3⟩
    exact ⟨id, o, x, c, h1, h2, by rw [← hl]; exact h3⟩
  refine ⟨⟨fun id o ho => ?_, ?_, ?_, fun k hk => ⟨(hx k hk).1, (hx k hk).2.1, fun q => (hx k hk).2.2 (hOw k q)⟩⟩, hE, ⟨S.os, S.tape, S.output, S.size, fun k hk _ => hb k hk⟩⟩
  · cases o with
    | dead => trivial
    | map kvs => exact ORel.mono hE (by rw [hl]) (fun b x c hm => hb b (ORel.blk_lt (R.obj id _ ho) hm (.inl rfl))) S.size (R.obj id _ ho)
    | arr sz es own nil => exact ORel.mono hE (by rw [hl]) (fun b x c hm => hb b (ORel.blk_lt (R.obj id _ ho) hm (.inr ⟨_, _, _, _, rfl⟩))) S.size (R.obj id _ ho)
  · intro i j o p b x c y d hi hj hoi hpj hmi hmj
    rw [hl] at hmi hmj
    exact R.sep i j o p b x c y d hi hj hoi hpj hmi hmj
  · intro i sz es nil b x c hi hmi hO
    rw [hl] at hmi
    exact R.apart i sz es nil b x c hi hmi (hOw b hO)
theorem closedX_sound {f : FuncId} {F : Fun} (shp shr : List Sh) (hc : CSound P f F) : CSound P f (closedX shp shr F) := by
  intro args h v h' hk μ w cargs R hargs
  unfold closedX at hk
  split at hk <;> try (simp at hk; done)
  rename_i as hcv
  split at hk <;> try (simp at hk; done)
  rename_i u g hF
  split at hk <;> try (simp at hk; done)
  rename_i u' hu
  simp only [Option.some.injEq, Prod.mk.injEq] at hk
  obtain ⟨rfl, rfl⟩ := hk
  cases hpl : plains args with
  | true =>
    rw [cvts_plain hpl] at hcv
    injection hcv with hcv
    subst hcv
    have R1 : Rel μ [] w := Rel.nil fun k hk => ⟨(R.imm k hk).1, (R.imm k hk).2.1⟩
    obtain ⟨hg, hcall⟩ := hc _ _ _ _ hF μ w cargs R1 (nrms_VRs shp (plain_VRs (ImmLe.refl _) hpl hargs))
    refine ⟨hg, Calls.mono hcall ?_⟩
    rintro e w' ⟨cv, μ2, rfl, S, hv⟩
    rw [hpl] at hu
    have hnew : ∀ k, Own μ2 g k → w.heap.size ≤ k := fun k hk => (S.own k hk).elim (fun q => (Own.nil q).elim) id
    have him : ∀ k, μ2.imm k → μ.imm k ∨ w.heap.size ≤ k := fun k hk => (S.fresh k hk).elim .inl fun q => q.elim (fun q => (Own.nil q).elim) .inr
    obtain ⟨ξ, hξ⟩ : ∃ ξ : Mu, ξ = { loc := μ.loc, base := w', imm := fun k => μ2.imm k ∨ Own μ2 g k } := ⟨_, rfl⟩
    have hle : ImmLe μ ξ := fun k hk => by
      subst hξ
      refine ⟨.inl (S.evo.imm k hk).1, ?_⟩
      exact ((S.rel.imm k (S.evo.imm k hk).1).2.1).trans (S.evo.imm k hk).2
    obtain ⟨r1, r2, r3⟩ := Rel.over (g := g) R S.frame (ξ := ξ) (by rw [hξ]) hle (fun k hk => by
      subst hξ
      rcases hk with hk | hk
      · exact ⟨(S.rel.imm k hk).1, rfl, fun hO => by
          have := R.own_lt hO
          rcases him k hk with q | q
          · exact (R.imm k q).2.2 hO
          · omega⟩
      · exact ⟨S.rel.own_lt hk, rfl, fun hO => by have := R.own_lt hO; have := hnew k hk; omega⟩)
    have hfin := cvt_sound (ν := ξ) S.rel (fun k hk => by subst hξ; rfl) (fun k hk => by subst hξ; exact .inr hk) (fun _ k hk => by subst hξ; exact .inl hk) hv hu
    refine ⟨cv, ξ, rfl, ⟨r1, r2, r3, fun b hb => .inl ?_, fun k hk => ?_⟩, nrmR_VR (VR.lift h hfin)⟩
    · subst hξ; exact hb
    · subst hξ
      rcases hk with hk | hk
      · exact (him k hk).elim .inl fun q => .inr (.inr q)
      · exact .inr (.inr (hnew k hk))
  | false =>
    rw [hpl] at hu
    obtain ⟨μ1, hμ1⟩ : ∃ μ1 : Mu, μ1 = { loc := μ.loc, base := w, imm := fun k => μ.imm k ∨ Own μ h k } := ⟨_, rfl⟩
    have R1 : Rel μ1 [] w := Rel.nil fun k hk => by
      subst hμ1
      rcases hk with hk | hk
      · exact ⟨(R.imm k hk).1, rfl⟩
      · exact ⟨R.own_lt hk, rfl⟩
    have hargs1 : VRs μ1 [] as cargs.toList := cvts_sound R (fun k hk => by subst hμ1; rfl) (fun k hk => by subst hμ1; exact .inr hk) (fun _ k hk => by subst hμ1; exact .inl hk) hargs hcv
    obtain ⟨hg, hcall⟩ := hc _ _ _ _ hF μ1 w cargs R1 (nrms_VRs shp hargs1)
    refine ⟨hg, Calls.mono hcall ?_⟩
    rintro e w' ⟨cv, μ2, rfl, S, hv⟩
    have hnew : ∀ k, Own μ2 g k → w.heap.size ≤ k := fun k hk => (S.own k hk).elim (fun q => (Own.nil q).elim) id
    have hbl : ∀ k, k < w.heap.size → w'.heap[k]? = w.heap[k]? := fun k hk => S.frame.block k hk Own.nil
    obtain ⟨ξ, hξ⟩ : ∃ ξ : Mu, ξ = { loc := μ.loc, base := w', imm := fun k => μ.imm k ∨ Own μ2 g k } := ⟨_, rfl⟩
    have hle : ImmLe μ ξ := fun k hk => by
      subst hξ
      exact ⟨.inl hk, (hbl k (R.imm k hk).1).trans (R.imm k hk).2.1⟩
    obtain ⟨r1, r2, r3⟩ := Rel.over (g := g) R S.frame (ξ := ξ) (by rw [hξ]) hle (fun k hk => by
      subst hξ
      rcases hk with hk | hk
      · exact ⟨Nat.lt_of_lt_of_le (R.imm k hk).1 S.frame.size, rfl, (R.imm k hk).2.2⟩
      · exact ⟨S.rel.own_lt hk, rfl, fun hO => by have := R.own_lt hO; have := hnew k hk; omega⟩)
    have hfin := cvt_sound (ν := ξ) S.rel (fun k hk => by subst hξ; rfl) (fun k hk => by subst hξ; exact .inr hk) (fun hst => by simp at hst) hv hu
    refine ⟨cv, ξ, rfl, ⟨r1, r2, r3, fun b hb => .inl ?_, fun k hk => ?_⟩, nrmR_VR (VR.lift h hfin)⟩
    · subst hξ; exact hb
    · subst hξ
      rcases hk with hk | hk
      · exact .inl hk
      · exact .inr (.inr (hnew k hk))

mutual
theorem cvt_is_plain {st : Bool} : ∀ {a a' : AV}, cvt st h a = some a' → plain a' = true
  | .u, _, hk => by simp [cvt] at hk
  | .ptr .., _, hk => by simp [cvt] at hk
  | .mp _, _, hk => by simp [cvt] at hk
  | .s _, _, hk => by simp only [cvt, Option.some.injEq] at hk; subst hk; rfl
  | .yl _, _, hk => by simp only [cvt, Option.some.injEq] at hk; subst hk; rfl
  | .lst .., _, hk => by cases st <;> simp [cvt] at hk; subst hk; rfl
  | .ep .., _, hk => by cases st <;> simp [cvt] at hk; subst hk; rfl
  | .sl sz id off len fr full, _, hk => by
    simp only [cvt] at hk
    split at hk <;> try (simp at hk; done)
    split at hk <;> try (simp at hk; done)
    simp only [Option.some.injEq] at hk
    subst hk
    rfl
  | .agg cs, _, hk => by
    simp only [cvt, Option.map_eq_some_iff] at hk
    obtain ⟨cs', h1, rfl⟩ := hk
    simpa [plain] using cvts_is_plain h1
  | .tup cs, _, hk => by
    simp only [cvt, Option.map_eq_some_iff] at hk
    obtain ⟨cs', h1, rfl⟩ := hk
    simpa [plain] using cvts_is_plain h1
  | .fn f cs, _, hk => by
    simp only [cvt, Option.map_eq_some_iff] at hk
    obtain ⟨cs', h1, rfl⟩ := hk
    simpa [plain] using cvts_is_plain h1
theorem cvts_is_plain {st : Bool} : ∀ {as as' : List AV}, cvts st h as = some as' → plains as' = true
  | [], _, hk => by simp only [cvts, Option.some.injEq] at hk; subst hk; rfl
  | a :: as, _, hk => by
    simp only [cvts] at hk
    split at hk <;> try (simp at hk; done)
    rename_i a1 as1 q1 q2
    simp only [Option.some.injEq] at hk
    subst hk
    simp [plains, cvt_is_plain q1, cvts_is_plain q2]
end
theorem nrmC_plain {s : Option Nat} {a : AV} (hp : plain a = true) : plain (nrmC s a) = true := by unfold nrmC; split <;> simp_all [plain]
theorem nrmCs_plain : ∀ (ss : List (Option Nat)) {as : List AV}, plains as = true → plains (nrmCs ss as) = true
  | [], as, hp => by cases as <;> exact hp
  | s :: ss, [], hp => hp
  | s :: ss, a :: as, hp => by
    simp only [plains, Bool.and_eq_true, nrmCs] at hp ⊢
    exact ⟨nrmC_plain hp.1, nrmCs_plain ss hp.2⟩
theorem nrm_plain {s : Sh} {a : AV} (hp : plain a = true) : plain (nrm s a) = true := by
  unfold nrm
  split
  · exact nrmC_plain hp
  · simp only [plain] at hp ⊢; exact nrmCs_plain _ hp
  · exact hp
theorem nrms_plain : ∀ (ss : List Sh) {as : List AV}, plains as = true → plains (nrms ss as) = true
  | [], as, hp => by cases as <;> exact hp
  | s :: ss, [], hp => hp
  | s :: ss, a :: as, hp => by
    simp only [plains, Bool.and_eq_true, nrms] at hp ⊢
    exact ⟨nrm_plain hp.1, nrms_plain ss hp.2⟩
theorem nrmR_plain {ss : List Sh} {a : AV} (hp : plain a = true) : plain (nrmR ss a) = true := by
  unfold nrmR
  split
  · simp only [plain] at hp ⊢; exact nrms_plain _ hp
  · exact nrm_plain hp
  · exact hp
theorem closedX_some {shp shr : List Sh} {F : Fun} {args : List AV} {v : AV} (hk : closedX shp shr F args h = some (v, h')) : plain v = true ∧ h' = h := by
  unfold closedX at hk
  split at hk <;> try (simp at hk; done)
  split at hk <;> try (simp at hk; done)
  split at hk <;> try (simp at hk; done)
  rename_i u' hu
  simp only [Option.some.injEq, Prod.mk.injEq] at hk
  obtain ⟨rfl, rfl⟩ := hk
  exact ⟨nrmR_plain (cvt_is_plain hu), rfl⟩
mutual
def ids : AV → List Nat
  | .sl _ id .. => [id]
  | .ptr id .. => [id]
  | .mp id => [id]
  | .agg cs | .tup cs | .fn _ cs => idss cs
  | .u | .s _ | .yl _ | .lst .. | .ep .. => []
def idss : List AV → List Nat
  | [] => []
  | a :: as => ids a ++ idss as
end
mutual
theorem cvt_local {st : Bool} : ∀ {a a' : AV}, cvt st h a = some a' → Agree (ids a) h h' → cvt st h' a = some a'
  | .u, _, hk, _ => by simp [cvt] at hk
  | .ptr .., _, hk, _ => by simp [cvt] at hk
  | .mp _, _, hk, _ => by simp [cvt] at hk
  | .s _, _, hk, _ => hk
  | .yl _, _, hk, _ => hk
  | .lst .., _, hk, _ => hk
  | .ep .., _, hk, _ => hk
  | .sl sz id off len fr full, _, hk, hag => by
    have hk' := hk
    simp only [cvt] at hk
    split at hk <;> try (simp at hk; done)
    rename_i sz' es own nil ho
    have := hag id (by simp [ids]) _ ho
    rw [← hk']
    simp only [cvt, this, ho]
  | .agg cs, _, hk, hag => by
    simp only [cvt, Option.map_eq_some_iff] at hk ⊢
    obtain ⟨cs', h1, rfl⟩ := hk
    exact ⟨cs', cvts_local h1 (by simpa [ids] using hag), rfl⟩
  | .tup cs, _, hk, hag => by
    simp only [cvt, Option.map_eq_some_iff] at hk ⊢
    obtain ⟨cs', h1, rfl⟩ := hk
    exact ⟨cs', cvts_local h1 (by simpa [ids] using hag), rfl⟩
  | .fn f cs, _, hk, hag => by
    simp only [cvt, Option.map_eq_some_iff] at hk ⊢
    obtain ⟨cs', h1, rfl⟩ := hk
    exact ⟨cs', cvts_local h1 (by simpa [ids] using hag), rfl⟩
theorem cvts_local {st : Bool} : ∀ {as as' : List AV}, cvts st h as = some as' → Agree (idss as) h h' → cvts st h' as = some as'
  | [], _, hk, _ => hk
  | a :: as, _, hk, hag => by
    simp only [cvts] at hk ⊢
    split at hk <;> try (simp at hk; done)
    rename_i a1 as1 q1 q2
    rw [cvt_local q1 (fun id hid => hag id (by simp [idss, hid])), cvts_local q2 (fun id hid => hag id (by simp [idss, hid]))]
    exact hk
end
def closedXD (shp shr : List Sh) (F : Fun) : DFun := fun args h _ =>
  match closedX shp shr F args h with
  | some (v, _) => some (v, EF (idss args))
  | none => none
theorem closedXD_some {shp shr : List Sh} {F : Fun} {args : List AV} {base : Nat} {v : AV} {e : Eff} (hk : closedXD shp shr F args h base = some (v, e)) : e = EF (idss args) ∧ closedX shp shr F args h = some (v, h) := by
  unfold closedXD at hk
  split at hk <;> try (simp at hk; done)
  rename_i u h1 hu
  simp only [Option.some.injEq, Prod.mk.injEq] at hk
  obtain ⟨rfl, rfl⟩ := hk
  obtain ⟨-, rfl⟩ := closedX_some hu
  exact ⟨rfl, hu⟩
theorem closedX_local {shp shr : List Sh} {F : Fun} {args : List AV} {v : AV} (hk : closedX shp shr F args h = some (v, h)) (hag : Agree (idss args) h h') : closedX shp shr F args h' = some (v, h') := by
  unfold closedX at hk ⊢
  split at hk <;> try (simp at hk; done)
  rename_i as h1
  rw [cvts_local h1 hag]
  dsimp only at hk ⊢
  split at hk <;> try (simp at hk; done)
  split at hk <;> try (simp at hk; done)
  rename_i u' hu
  simp only [Option.some.injEq, Prod.mk.injEq] at hk
  obtain ⟨rfl, -⟩ := hk
  simp_all
theorem closedX_ro (shp shr : List Sh) (F : Fun) : Ro (closedX shp shr F) (closedXD shp shr F) := by
  refine ⟨fun args h base v e hk => ?_, fun args h base v e hk H hag => ?_, fun args h base v e hk => ?_⟩
  · obtain ⟨rfl, h1⟩ := closedXD_some hk
    exact ⟨rfl, rfl, (closedX_some h1).1⟩
  · obtain ⟨rfl, h1⟩ := closedXD_some hk
    unfold closedXD
    rw [closedX_local h1 hag]
  · obtain ⟨rfl, h1⟩ := closedXD_some hk
    exact ⟨[], by rw [h1]; simp⟩
theorem closedXD_val {shp shr : List Sh} {F : Fun} {args : List AV} {v : AV} (hk : closedX shp shr F args h = some (v, h)) (base : Nat) : closedXD shp shr F args h base = some (v, EF (idss args)) := by
  unfold closedXD; rw [hk]
/-- The value of a closed call. -/
theorem closedX_val {shp shr : List Sh} {F : Fun} {args : List AV} {v v' : AV} {g : Hp} (ha : plains args = true) (hF : F (nrms shp args) [] = some (v, g)) (hv : cvt false g v = some v') (h : Hp) : closedX shp shr F args h = some (nrmR shr v', h) := by
  unfold closedX
  rw [cvts_plain ha]
  dsimp only
  rw [hF]
  dsimp only
  rw [ha, Bool.not_true, hv]
/- Numbers alone. -/
mutual
def scal : AV → Bool
  | .s _ => true
  | .agg cs | .tup cs => scals cs
  | _ => false
def scals : List AV → Bool
  | [] => true
  | a :: as => scal a && scals as
end
mutual
theorem cvt_scal : ∀ {v v' : AV}, cvt false h v = some v' → scal v' = true → cvt true h v = some v'
  | .u, _, hk, _ => by simp [cvt] at hk
  | .ptr .., _, hk, _ => by simp [cvt] at hk
  | .mp _, _, hk, _ => by simp [cvt] at hk
  | .s _, _, hk, _ => hk
  | .yl _, _, hk, _ => hk
  | .lst .., _, hk, hs => by simp only [cvt, cond_false, Option.some.injEq] at hk; subst hk; simp [scal] at hs
  | .ep .., _, hk, hs => by simp only [cvt, cond_false, Option.some.injEq] at hk; subst hk; simp [scal] at hs
  | .sl sz id off len fr full, _, hk, hs => by
    simp only [cvt] at hk
    split at hk <;> try (simp at hk; done)
    split at hk <;> try (simp at hk; done)
    simp only [Option.some.injEq] at hk
    subst hk
    simp [scal] at hs
  | .agg cs, _, hk, hs => by
    simp only [cvt, Option.map_eq_some_iff] at hk ⊢
    obtain ⟨cs', h1, rfl⟩ := hk
    exact ⟨cs', cvts_scal h1 (by simpa [scal] using hs), rfl⟩
  | .tup cs, _, hk, hs => by
    simp only [cvt, Option.map_eq_some_iff] at hk ⊢
    obtain ⟨cs', h1, rfl⟩ := hk
    exact ⟨cs', cvts_scal h1 (by simpa [scal] using hs), rfl⟩
  | .fn f cs, _, hk, hs => by
    simp only [cvt, Option.map_eq_some_iff] at hk
    obtain ⟨cs', h1, rfl⟩ := hk
    simp [scal] at hs
theorem cvts_scal : ∀ {as as' : List AV}, cvts false h as = some as' → scals as' = true → cvts true h as = some as'
  | [], _, hk, _ => hk
  | a :: as, _, hk, hs => by
    simp only [cvts] at hk ⊢
    split at hk <;> try (simp at hk; done)
    rename_i a1 as1 q1 q2
    simp only [Option.some.injEq] at hk
    subst hk
    simp only [scals, Bool.and_eq_true] at hs
    rw [cvt_scal q1 hs.1, cvts_scal q2 hs.2]
end
theorem nrmC_scal {s : Option Nat} {a : AV} (hp : scal (nrmC s a) = true) : scal a = true := by unfold nrmC at hp; split at hp <;> simp_all [scal]
theorem nrmCs_scal : ∀ (ss : List (Option Nat)) {as : List AV}, scals (nrmCs ss as) = true → scals as = true
  | [], as, hp => by cases as <;> exact hp
  | s :: ss, [], hp => hp
  | s :: ss, a :: as, hp => by
    simp only [scals, Bool.and_eq_true, nrmCs] at hp ⊢
    exact ⟨nrmC_scal hp.1, nrmCs_scal ss hp.2⟩
theorem nrm_scal {s : Sh} {a : AV} (hp : scal (nrm s a) = true) : scal a = true := by
  unfold nrm at hp
  split at hp
  · exact nrmC_scal hp
  · simp only [scal] at hp ⊢; exact nrmCs_scal _ hp
  · exact hp
theorem nrms_scal : ∀ (ss : List Sh) {as : List AV}, scals (nrms ss as) = true → scals as = true
  | [], as, hp => by cases as <;> exact hp
  | s :: ss, [], hp => hp
  | s :: ss, a :: as, hp => by
    simp only [scals, Bool.and_eq_true, nrms] at hp ⊢
    exact ⟨nrm_scal hp.1, nrms_scal ss hp.2⟩
theorem nrmR_scal {ss : List Sh} {a : AV} (hp : scal (nrmR ss a) = true) : scal a = true := by
  unfold nrmR at hp
  split at hp
  · simp only [scal] at hp ⊢; exact nrms_scal _ hp
  · exact nrm_scal hp
  · exact hp
theorem closedX_scal {shp shr : List Sh} {F : Fun} {args as : List AV} {v : AV} {h0 : Hp} (ha : cvts false h args = some as) (hF : closedX shp shr F as h0 = some (v, h0)) (hs : scal v = true) : closedX shp shr F args h = some (v, h) := by
  have hp := cvts_is_plain ha
  unfold closedX at hF ⊢
  rw [cvts_plain hp] at hF
  rw [ha]
  dsimp only at hF ⊢
  split at hF <;> try (simp at hF; done)
  rename_i w g hR
  split at hF <;> try (simp at hF; done)
  rename_i w' hw
  simp only [Option.some.injEq, Prod.mk.injEq] at hF
  obtain ⟨rfl, -⟩ := hF
  rw [hp, Bool.not_true] at hw
  have hw2 : ∀ st, cvt st g w = some w' := fun st => by
    cases st with
    | false => exact hw
    | true => exact cvt_scal hw (nrmR_scal hs)
  rw [hw2]
/-- Of arguments that lie in the heap; the answer of numbers alone. -/
theorem closedX_own {shp shr : List Sh} {F : Fun} {args as : List AV} {v v' : AV} {g : Hp} (ha : cvts false h args = some as) (hF : F (nrms shp as) [] = some (v, g)) (hv : ∀ st, cvt st g v = some v') : closedX shp shr F args h = some (nrmR shr v', h) := by
  unfold closedX
  rw [ha]
  dsimp only
  rw [hF]
  dsimp only
  rw [hv]

/-! ### Functions that only look; functions whose garbage nobody needs -/
open Classical in
noncomputable def quietT (F : Fun) : Fun := fun args h => if hx : ∃ v g, F args h = some (v, h ++ g) ∧ plain v = true then some (hx.choose, h) else none
theorem quietT_val {F : Fun} {args : List AV} {v : AV} {g : Hp} (hF : F args h = some (v, h ++ g)) (hp : plain v = true) : quietT F args h = some (v, h) := by
  have hx : ∃ v g, F args h = some (v, h ++ g) ∧ plain v = true := ⟨v, g, hF, hp⟩
  unfold quietT
  rw [dif_pos hx]
  obtain ⟨g', h1, -⟩ := hx.choose_spec
  have h2 := hF.symm.trans h1
  injection h2 with h2
  injection h2 with h2 _
  rw [← h2]
theorem quietT_sound {f : FuncId} {F : Fun} (hc : CSound P f F) : CSound P f (quietT F) := by
  intro args h v h' hk μ w cargs R hargs
  unfold quietT at hk
  split at hk <;> try (simp at hk; done)
  rename_i hx
  simp only [Option.some.injEq, Prod.mk.injEq] at hk
  obtain ⟨rfl, rfl⟩ := hk
  obtain ⟨g, h1, h2⟩ := hx.choose_spec
  obtain ⟨hg, hcall⟩ := hc _ _ _ _ h1 μ w cargs R hargs
  exact ⟨hg, forget_call R h2 hcall⟩
def Looks (F : Fun) (args : List AV) (h : Hp) (v : AV) : Prop := plain v = true ∧ ∀ H, Agree (idss args) h H → ∃ g, F args H = some (v, H ++ g)
open Classical in
noncomputable def roD (F : Fun) : DFun := fun args h _ => if hx : ∃ v, Looks F args h v then some (hx.choose, EF (idss args)) else none
theorem roD_val {F : Fun} {args : List AV} {h : Hp} {v : AV} (hl : Looks F args h v) (base : Nat) : roD F args h base = some (v, EF (idss args)) := by
  have hx : ∃ v, Looks F args h v := ⟨v, hl⟩
  unfold roD
  rw [dif_pos hx]
  obtain ⟨g, h1⟩ := hl.2 h (fun _ _ _ h => h)
  obtain ⟨g', h2⟩ := hx.choose_spec.2 h (fun _ _ _ h => h)
  rw [h1] at h2
  injection h2 with h2
  injection h2 with h2 _
  rw [← h2]
theorem ro_ro (F : Fun) : Ro F (roD F) := by
  have key : ∀ args h base v e, roD F args h base = some (v, e) → e = EF (idss args) ∧ Looks F args h v := by
    intro args h base v e hk
    unfold roD at hk
    split at hk <;> try (simp at hk; done)
    rename_i hx
    simp only [Option.some.injEq, Prod.mk.injEq] at hk
    obtain ⟨rfl, rfl⟩ := hk
    exact ⟨rfl, hx.choose_spec⟩
  refine ⟨fun args h base v e hk => ?_, fun args h base v e hk H hag => ?_, fun args h base v e hk => ?_⟩
  · obtain ⟨rfl, h2⟩ := key _ _ _ _ _ hk; exact ⟨rfl, rfl, h2.1⟩
  · obtain ⟨rfl, h2⟩ := key _ _ _ _ _ hk
    refine roD_val ⟨h2.1, fun H' hag' => h2.2 H' fun id hid x hx => hag' id hid x (hag id hid x hx)⟩ base
  · obtain ⟨rfl, h2⟩ := key _ _ _ _ _ hk
    exact h2.2 h (fun _ _ _ h => h)
/-- An entry of both tables. -/
theorem DSound.ro {D : DTab} (DS : DSound P D) {f : Nat} {F : Fun} {G : DFun} (r : Ro F G) (hc : CSound P f F) : DSound P (updD D f G) := DS.upd r.loc (r.calls hc)
end Go.AM
