import Derived.Test.YtlnjnfbdcdmacaaAmPure2
namespace Go.AM
open Go.RowKit
set_option linter.unusedVariables false
set_option linter.unusedSimpArgs false
variable {P : Program} {μ : Mu} {h : Hp} {w : World}
theorem foldSet (off : Nat) : ∀ (l : List Value) (k : Nat) (cells : Array Value), off + k + l.length ≤ cells.size →
    ((l.zipIdx k).foldl (fun cs (p : Value × Nat) => cs.setIfInBounds (off + p.2) p.1) cells).toList = cells.toList.take (off + k) ++ l ++ cells.toList.drop (off + k + l.length) := by
  intro l
  induction l with
  | nil => intro k cells hl; simp
  | cons x l ih =>
    intro k cells hl
    simp only [List.zipIdx_cons, List.foldl_cons]
    simp only [List.length_cons] at hl
    rw [ih (k + 1) _ (by simp; omega)]
    have hlt : off + k < cells.toList.length := by simp; omega
    simp only [Array.toList_setIfInBounds]
    have e1 : (cells.toList.set (off + k) x).take (off + (k + 1)) = cells.toList.take (off + k) ++ [x] := by
      rw [← Nat.add_assoc, List.take_add_one, List.take_set_of_le (Nat.le_refl _), List.getElem?_set_self hlt]; rfl
    have e2 : (cells.toList.set (off + k) x).drop (off + (k + 1) + l.length) = cells.toList.drop (off + k + (l.length + 1)) := by
      rw [List.drop_set_of_lt (by omega)]; congr 1; omega
    rw [e1, e2]
    simp
theorem fill_sound {place : Nat → Option (Nat × Nat)} {pl : Nat → Option (Nat × Nat)} (hp : ∀ i q, pl i = some q → place i = some q) :
    ∀ (parts : List (Nat × AV)) (vparts : List (Nat × Value)) (z : List AV) (cells : Array Value) (c : List AV),
      parts.length = vparts.length → (∀ (i : Nat) (p : Nat × AV) (q : Nat × Value), parts[i]? = some p → vparts[i]? = some q → p.1 = q.1 ∧ VR μ h p.2 q.2) → VRs μ h z cells.toList →
      fillA z (parts.map fun p => (pl p.1, p.2)) = some c → ∃ cells', Instr.fill place cells vparts = some cells' ∧ VRs μ h c cells'.toList := by
  intro parts
  induction parts with
  | nil =>
    intro vparts z cells c hl _ hz hk
    simp [fillA] at hk
    subst hk
    cases vparts with
    | nil => exact ⟨cells, rfl, hz⟩
    | cons => simp at hl
  | cons p parts ih =>
    intro vparts z cells c hl hr hz hk
    cases vparts with
    | nil => simp at hl
    | cons q vparts =>
      obtain ⟨e1, hv⟩ := hr 0 p q rfl rfl
      simp only [List.map_cons, fillA] at hk
      cases hq : pl p.1 with
      | none => simp [hq, fillA] at hk
      | some os =>
        obtain ⟨off, size⟩ := os
        simp only [hq, fillA] at hk
        split at hk <;> try (simp at hk; done)
        rename_i hc
        obtain ⟨hc1, hc2, hc3⟩ := hc
        have hcs := VR.cells hv hc2
        have hlen := hcs.length
        have hzl := hz.length
        have e3 : q.2.cells.size = size := by rw [← hc1, hlen]; simp
        have hfit : off + 0 + q.2.cells.toList.length ≤ cells.size := by simp; rw [e3]; rw [hzl] at hc3; simpa using hc3
        have hfs := foldSet off q.2.cells.toList 0 cells hfit
        obtain ⟨cells', h1, h2⟩ := ih vparts (putAt z off (cellsOf p.2)) (q.2.cells.zipIdx.foldl (fun cs (c, j) => cs.setIfInBounds (off + j) c) cells) c (by simpa using hl)
          (fun i p' q' h1 h2 => hr (i + 1) p' q' (by simpa using h1) (by simpa using h2)) (by
            rw [← Array.foldl_toList, Array.toList_zipIdx, hfs]
            simp only [putAt, Nat.add_zero, hlen]
            exact VRs.append (VRs.append (VRs.take _ hz) hcs) (VRs.drop _ hz)) hk
        refine ⟨cells', ?_, h2⟩
        simp only [Instr.fill]
        rw [← e1, hp _ _ hq]
        have : ¬ ((q.2.cells.size ≠ size || off + q.2.cells.size > cells.size) = true) := by
          simp [e3]; rw [hzl] at hc3; simpa using hc3
        simp only [this]
        exact h1
theorem zero_sound {t : TypeId} {z : AV} (hz : zeroAV P t = some z) : ∃ v, (zeroValue t).run P w = .ok v w ∧ VR μ h z v := by
  unfold zeroAV at hz
  obtain ⟨v, hv, hz⟩ := Option.bind_eq_some_iff.1 hz
  obtain ⟨i, hi, hv⟩ := Option.bind_eq_some_iff.1 hv
  exact ⟨v, by simp [zeroValue, typeInfo, hi, hv], VR.ofV1 hz⟩
theorem run_mapM_sizes : ∀ (fs : List Field) (w : World), (∀ f ∈ fs, (szOf P f.type).isSome = true) →
    (fs.mapM fun f => do pure (f.offset, ← Go.sizeOf f.type) : Sem (List (Nat × Nat))).run P w = .ok (fs.map fun f => (f.offset, (szOf P f.type).getD 0)) w
  | [], w, _ => rfl
  | f :: fs, w, hf => by
    obtain ⟨n, hn⟩ := Option.isSome_iff_exists.1 (hf f (by simp))
    have ih := run_mapM_sizes fs w (fun g hg => hf g (by simp [hg]))
    simp only [List.mapM_cons, List.map_cons]
    have ih' : (fs.mapM fun f => Prod.mk f.offset <$> Go.sizeOf f.type).run P w = .ok (fs.map fun f => (f.offset, (szOf P f.type).getD 0)) w := by simpa using ih
    simp [Sem.run_bind, run_sizeOf' hn, ih', hn]
theorem build_sound {ty : TypeId} {z : List AV} {a : AV} {parts : List (Nat × AV)} {vparts : List (Nat × Value)} (hz : zeroAV P ty = some (.agg z)) (ha : allSized P ty = true)
    (hl : parts.length = vparts.length) (hr : ∀ (i : Nat) (p : Nat × AV) (q : Nat × Value), parts[i]? = some p → vparts[i]? = some q → p.1 = q.1 ∧ VR μ h p.2 q.2)
    (hk : buildK z (parts.map fun p => (placeOf P ty p.1, p.2)) some = some a) : ∃ u, (Instr.build ty vparts.toArray).run P w = .ok u w ∧ VR μ h a u := by
  unfold buildK at hk
  split at hk <;> try (simp at hk; done)
  rename_i c hc
  simp only [Option.some.injEq] at hk
  subst hk
  obtain ⟨v, hv, hvr⟩ := zero_sound (μ := μ) (h := h) (w := w) hz
  simp only [VR] at hvr
  obtain ⟨vs, rfl, hvs⟩ := hvr
  unfold allSized at ha
  split at ha <;> try (simp at ha; done)
  case h_2 n e hu =>
    obtain ⟨sz, hs⟩ := Option.isSome_iff_exists.1 ha
    have hao : arrOf P ty = some (n, e) := by unfold arrOf; rw [hu]
    obtain ⟨cells', h1, h2⟩ := fill_sound (μ := μ) (h := h) (place := fun i => some (i * sz, sz)) (pl := placeOf P ty) (by
      intro i q hq
      unfold placeOf at hq
      rw [hao] at hq
      simp only [hs, Option.map_some] at hq
      exact hq) parts vparts z vs c hl hr hvs hc
    refine ⟨.agg cells', ?_, by simp only [VR]; exact ⟨_, rfl, h2⟩⟩
    unfold Instr.build
    rw [Sem.run_bind, hv]
    simp only [Result.andThen_ok]
    rw [Sem.run_bind, run_underlying hu]
    simp only [Result.andThen_ok]
    rw [Sem.run_bind, run_sizeOf' hs]
    simp only [Result.andThen_ok, Value.cells]
    rw [h1]
    rfl
  rename_i fs hu
  have hsz := run_mapM_sizes (P := P) fs.toList w (by intro f hf; exact List.all_eq_true.1 ha f hf)
  obtain ⟨cells', h1, h2⟩ := fill_sound (μ := μ) (h := h) (place := ((fs.map fun f => (f.offset, (szOf P f.type).getD 0))[·]?)) (pl := placeOf P ty) (by
    intro i q hq
    have hao : arrOf P ty = none := by unfold arrOf; rw [hu]
    unfold placeOf at hq
    rw [hao] at hq
    unfold fieldOf at hq
    rw [hu] at hq
    simp only [Option.bind_eq_some_iff, Option.map_eq_some_iff] at hq
    obtain ⟨⟨o, t⟩, ⟨f, hf, e⟩, n, hn, rfl⟩ := hq
    simp only [Prod.mk.injEq] at e
    obtain ⟨e1, e2⟩ := e
    subst e1 e2
    simp [hf, hn]) parts vparts z vs c hl hr hvs hc
  refine ⟨.agg cells', ?_, by simp only [VR]; exact ⟨_, rfl, h2⟩⟩
  have hmap : (fs.mapM fun f => do pure (f.offset, ← Go.sizeOf f.type) : Sem (Array (Nat × Nat))).run P w = .ok (fs.map fun f => (f.offset, (szOf P f.type).getD 0)) w := by
    rw [Array.mapM_eq_mapM_toList]
    have hsz' : (fs.toList.mapM fun f => Prod.mk f.offset <$> Go.sizeOf f.type).run P w = .ok (fs.toList.map fun f => (f.offset, (szOf P f.type).getD 0)) w := by simpa using hsz
    simp [Sem.run_bind, hsz']
    apply Array.ext'
    simp
  unfold Instr.build
  rw [Sem.run_bind, hv]
  simp only [Result.andThen_ok]
  rw [Sem.run_bind, run_underlying hu]
  simp only [Result.andThen_ok]
  rw [Sem.run_bind, hmap]
  simp only [Result.andThen_ok, Value.cells]
  rw [h1]
  rfl
/-! ### Maps -/
/-- The entries of a map, as the abstract one has them. -/
def EntsOk (μ : Mu) (h : Hp) (kvs : List (Value × AV)) (es : List MapEntry) : Prop :=
  kvs.length = es.length ∧ ∀ (i : Nat) (k : Value) (a : AV) (e : MapEntry), kvs[i]? = some (k, a) → es[i]? = some e → e.key = k ∧ VR μ h a e.val
theorem EntsOk.tail {k : Value} {a : AV} {kvs : List (Value × AV)} {e : MapEntry} {es : List MapEntry} (h1 : EntsOk μ h ((k, a) :: kvs) (e :: es)) :
    (e.key = k ∧ VR μ h a e.val) ∧ EntsOk μ h kvs es :=
  ⟨h1.2 0 k a e rfl rfl, by simpa using h1.1, fun i k' a' e' h2 h3 => h1.2 (i + 1) k' a' e' (by simpa using h2) (by simpa using h3)⟩
/-- Where a key lies. -/
inductive Found (k : Value) (eq : Value → Value → Option Bool) : List (Value × AV) → Nat → Option (Nat × AV) → Prop
  | nil (i : Nat) : Found k eq [] i none
  | here {k' a kvs i} (he : eq k k' = some true) : Found k eq ((k', a) :: kvs) i (some (i, a))
  | there {k' a kvs i r} (he : eq k k' = some false) (ht : Found k eq kvs (i + 1) r) : Found k eq ((k', a) :: kvs) i r
theorem found_of_lookup {k : Value} {eq : Value → Value → Option Bool} : ∀ {kvs : List (Value × AV)} {r : Option AV} (i : Nat), lookupKV kvs eq k = some r →
    ∃ r', Found k eq kvs i r' ∧ r'.map (·.2) = r
  | [], r, i, hk => by simp [lookupKV] at hk; subst hk; exact ⟨none, .nil i, rfl⟩
  | (k', a) :: kvs, r, i, hk => by
    simp only [lookupKV] at hk
    split at hk
    · rename_i he; simp at hk; subst hk; exact ⟨_, .here he, rfl⟩
    · rename_i he; obtain ⟨r', h1, h2⟩ := found_of_lookup (i + 1) hk; exact ⟨r', .there he h1, h2⟩
    · simp at hk
theorem keyEq_run {kt : TypeId} {a b : Value} {q : Bool} (he : keyEq P kt a b = some q) : pureVal P (Op.equal kt a b) = some q ∧ (q = true → Instr.sameBits 10000 b a = true) := by
  unfold keyEq at he
  split at he
  · rename_i h1
    split at he
    · rename_i h2; simp at he; subst he; exact ⟨h1, fun _ => h2⟩
    · simp at he
  · rename_i hne; exact ⟨he, fun hq => by subst hq; exact absurd he hne⟩
theorem run_findAsking {kt : TypeId} {k : Value} : ∀ {kvs : List (Value × AV)} {es : List MapEntry} {i : Nat} {r : Option (Nat × AV)}, EntsOk μ h kvs es → Found k (keyEq P kt) kvs i r →
    ∃ r', (Instr.findAsking kt k es i).run P w = .ok r' w ∧ (r = none → r' = none) ∧ ∀ j a, r = some (j, a) → ∃ v, r' = some (j, v) ∧ VR μ h a v := by
  intro kvs
  induction kvs with
  | nil =>
    intro es i r he hf
    cases hf
    cases es with
    | nil => exact ⟨none, rfl, fun _ => rfl, fun _ _ h => by simp at h⟩
    | cons => simp [EntsOk] at he
  | cons p kvs ih =>
    intro es i r he hf
    obtain ⟨k', a⟩ := p
    cases es with
    | nil => simp [EntsOk] at he
    | cons e es =>
      obtain ⟨⟨h1, h2⟩, h3⟩ := he.tail
      cases hf with
      | here hq =>
        have := pureVal_run _ _ (keyEq_run hq).1 w
        rw [← h1] at this
        exact ⟨some (i, e.val), by simp [Instr.findAsking, Sem.run_bind, this], fun h => by simp at h, fun j b hb => by simp at hb; obtain ⟨rfl, rfl⟩ := hb; exact ⟨e.val, rfl, h2⟩⟩
      | there hq ht =>
        have := pureVal_run _ _ (keyEq_run hq).1 w
        rw [← h1] at this
        obtain ⟨r', h4, h5, h6⟩ := ih h3 ht
        exact ⟨r', by simp [Instr.findAsking, Sem.run_bind, this, h4], h5, h6⟩
theorem sameNow_equal {kt : TypeId} {d : TypeDesc} {a b : Value} {q q' : Bool} (hu : P.underlying kt = some d) (hs : Instr.sameNow d a b = some q) (he : pureVal P (Op.equal kt a b) = some q') : q = q' := by
  have hr := pureVal_run _ _ he default
  unfold Op.equal Op.maxDepth at hr
  rw [Op.equalIn, Sem.run_bind, run_underlying hu, Result.andThen_ok] at hr
  unfold Instr.sameNow at hs
  split at hs
  · split at hs
    · rename_i hk
      subst hk
      simp only [Option.some.injEq] at hs
      subst hs
      simpa [Sem.run] using hr
    · simp at hs
  · simp only [Option.some.injEq] at hs
    subst hs
    simpa [Sem.run] using hr
  · simp only [Option.some.injEq] at hs
    subst hs
    simpa [Sem.run] using hr
  · simp at hs
theorem findNow_found {kt : TypeId} {d : TypeDesc} {k : Value} (hu : P.underlying kt = some d) : ∀ {kvs : List (Value × AV)} {es : List MapEntry} {i : Nat} {r : Option (Nat × AV)} {q : Option (Nat × Value)},
    EntsOk μ h kvs es → Found k (keyEq P kt) kvs i r → Instr.findNow d k es i = some q → (r = none → q = none) ∧ ∀ j a, r = some (j, a) → ∃ v, q = some (j, v) ∧ VR μ h a v := by
  intro kvs
  induction kvs with
  | nil =>
    intro es i r q he hf hn
    cases hf
    cases es with
    | nil => simp [Instr.findNow] at hn; subst hn; exact ⟨fun _ => rfl, fun _ _ h => by simp at h⟩
    | cons => simp [EntsOk] at he
  | cons p kvs ih =>
    intro es i r q he hf hn
    obtain ⟨k', a⟩ := p
    cases es with
    | nil => simp [EntsOk] at he
    | cons e es =>
      obtain ⟨⟨h1, h2⟩, h3⟩ := he.tail
      simp only [Instr.findNow] at hn
      rw [h1] at hn
      cases hf with
      | here hq =>
        split at hn
        · rename_i hs; simp at hn; subst hn; exact ⟨fun h => by simp at h, fun j b hb => by simp at hb; obtain ⟨rfl, rfl⟩ := hb; exact ⟨e.val, rfl, h2⟩⟩
        · rename_i hs; have := sameNow_equal hu hs (keyEq_run hq).1; simp at this
        · simp at hn
      | there hq ht =>
        split at hn
        · rename_i hs; have := sameNow_equal hu hs (keyEq_run hq).1; simp at this
        · exact ih h3 ht hn
        · simp at hn
theorem run_findKey {kt : TypeId} {d : TypeDesc} {k : Value} {kvs : List (Value × AV)} {es : List MapEntry} {r : Option (Nat × AV)} (hu : P.underlying kt = some d) (he : EntsOk μ h kvs es)
    (hf : Found k (keyEq P kt) kvs 0 r) : ∃ r', (Instr.findKey kt k es).run P w = .ok r' w ∧ (r = none → r' = none) ∧ ∀ j a, r = some (j, a) → ∃ v, r' = some (j, v) ∧ VR μ h a v := by
  unfold Instr.findKey
  rw [Sem.run_bind, run_underlying hu, Result.andThen_ok]
  cases hn : Instr.findNow d k es 0 with
  | some q => obtain ⟨h1, h2⟩ := findNow_found hu he hf hn; exact ⟨q, rfl, h1, h2⟩
  | none => exact run_findAsking he hf
theorem keyOk_run {kt : TypeId} {k : Value} (hk : keyOk P kt k = true) (b : Bool) : (Instr.checkKey b 10000 kt k).run P w = .ok () w := by
  unfold keyOk at hk
  obtain ⟨h1, h2⟩ := Bool.and_eq_true_iff.1 hk
  cases b
  · obtain ⟨⟨⟩, h⟩ := Option.isSome_iff_exists.1 h1; exact pureVal_run _ _ h w
  · obtain ⟨⟨⟩, h⟩ := Option.isSome_iff_exists.1 h2; exact pureVal_run _ _ h w
theorem look_sound (R : Rel μ h w) {ty kt et : TypeId} {d : TypeDesc} {z m kk a : AV} {ok : Bool} {v v' : Value} (hu : P.underlying ty = some (.map kt et)) (hkt : P.underlying kt = some d) (hz : zeroAV P et = some z)
    (hm : VR μ h m v) (hkk : VR μ h kk v') (hk : lookK P kt z ok m kk h some = some a) : ∃ u, (Instr.lookup ty v v' ok).run P w = .ok u w ∧ VR μ h a u := by
  unfold lookK at hk
  split at hk <;> try (simp at hk; done)
  rename_i id kv hkv
  obtain rfl := VR.toV hkk hkv
  split at hk <;> try (simp at hk; done)
  rename_i kvs ho
  split at hk <;> try (simp at hk; done)
  rename_i hok
  simp only [VR] at hm
  obtain ⟨kvs', blk, ho', hmu, rfl⟩ := hm
  obtain ⟨blk', hmu', es, clock, hh, hl, hes⟩ := R.obj _ _ ho
  rw [hmu] at hmu'
  injection hmu' with e1
  subst e1
  have hE : EntsOk μ h kvs es.toList := ⟨by simpa using hl, fun i k a e h1 h2 => hes i k a e h1 (by simpa using h2)⟩
  have hck := keyOk_run (w := w) hok es.isEmpty
  obtain ⟨zv, hzv, hzr⟩ := zero_sound (μ := μ) (h := h) (w := w) hz
  have hg : (getObj blk).run P w = .ok (.map es clock) w := by simp [getObj, Sem.run, hh]
  split at hk
  · rename_i x hlk
    simp only [Option.some.injEq] at hk
    subst hk
    obtain ⟨r, hf, hr⟩ := found_of_lookup 0 hlk
    obtain ⟨r', h1, -, h3⟩ := run_findKey (w := w) hkt hE hf
    obtain ⟨⟨j, b⟩, rfl⟩ : ∃ y, r = some y := by cases r with | none => simp at hr | some y => exact ⟨y, rfl⟩
    simp at hr
    subst hr
    obtain ⟨u, rfl, hur⟩ := h3 j b rfl
    cases ok
    · exact ⟨u, by simp [Instr.lookup, Sem.run_bind, run_underlying hu, hg, hck, h1], by simpa using hur⟩
    · exact ⟨.tuple #[u, .bool true], by simp [Instr.lookup, Sem.run_bind, run_underlying hu, hg, hck, h1], by simp [VR, VRs, gv]; exact hur⟩
  · rename_i hlk
    simp only [Option.some.injEq] at hk
    subst hk
    obtain ⟨r, hf, hr⟩ := found_of_lookup 0 hlk
    obtain ⟨r', h1, h2, -⟩ := run_findKey (w := w) hkt hE hf
    have : r = none := by cases r with | none => rfl | some y => simp at hr
    obtain rfl := h2 this
    cases ok
    · exact ⟨zv, by simp [Instr.lookup, Sem.run_bind, run_underlying hu, hg, hck, h1, hzv], by simpa using hzr⟩
    · exact ⟨.tuple #[zv, .bool false], by simp [Instr.lookup, Sem.run_bind, run_underlying hu, hg, hck, h1, hzv], by simp [VR, VRs, gv]; exact hzr⟩
  · simp at hk
end Go.AM
