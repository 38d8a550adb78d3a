import Derived.Test.YtlnjnfbdcdmacaaAmAct
namespace Go.AM
open Go.RowKit
set_option linter.unusedVariables false
set_option linter.unusedSimpArgs false
variable {P : Program} {μ μ' : Mu} {h h' : Hp} {w w' : World}
theorem fillS_sound {n : Nat} {place : Nat → Option (Nat × Nat)} (hp : ∀ i, place i = some (i * n, n)) :
    ∀ (parts : List (Nat × AV)) (vparts : List (Nat × Value)) (es : List (List AV)) (cells : Array Value) (c : List (List AV)),
      parts.length = vparts.length → (∀ (i : Nat) (p : Nat × AV) (q : Nat × Value), parts[i]? = some p → vparts[i]? = some q → p.1 = q.1 ∧ VR μ h p.2 q.2) → Sized n es → VRs μ h es.flatten cells.toList →
      (∀ v ∈ cells.toList, v.oneCell' = true) → fillS n es parts = some c →
      ∃ cells', Instr.fill place cells vparts = some cells' ∧ VRs μ h c.flatten cells'.toList ∧ Sized n c ∧ c.length = es.length ∧ ∀ v ∈ cells'.toList, v.oneCell' = true := by
  intro parts
  induction parts with
  | nil =>
    intro vparts es cells c hl _ hs hz h1 hk
    simp [fillS] at hk
    subst hk
    cases vparts with
    | nil => exact ⟨cells, rfl, hz, hs, rfl, h1⟩
    | cons => simp at hl
  | cons p parts ih =>
    intro vparts es cells c hl hr hs hz h1 hk
    cases vparts with
    | nil => simp at hl
    | cons q vparts =>
      obtain ⟨e1, hv⟩ := hr 0 p q rfl rfl
      obtain ⟨i, x⟩ := p
      simp only [fillS] at hk
      split at hk <;> try (simp at hk; done)
      rename_i hc
      obtain ⟨hc1, hc2, hc3⟩ := hc
      have hcs := VR.cells hv hc2
      have hlen := hcs.length
      have hzl := hz.length
      have hfl := flat_length hs
      simp only at hlen hc1 hc2 hcs
      have e3 : q.2.cells.toList.length = n := by rw [← hlen, hc1]
      have hfit : i * n + n ≤ cells.size := by
        have h2 : (i + 1) * n ≤ es.length * n := Nat.mul_le_mul_right _ hc3
        rw [Nat.add_mul] at h2
        have : cells.size = es.length * n := by rw [← Array.length_toList, ← hzl, hfl]
        omega
      have hfs := foldSet (i * n) q.2.cells.toList 0 cells (by rw [e3]; omega)
      have hs' : Sized n (es.set i (cellsOf x)) := by
        intro y hy
        rcases List.mem_or_eq_of_mem_set hy with hy | rfl
        · exact hs y hy
        · exact ⟨hc1, fun c hcc => List.all_eq_true.1 hc2 c hcc⟩
      have hone := VRs.one hcs hc2
      obtain ⟨cells', g1, g2, g3, g4, g5⟩ := ih vparts (es.set i (cellsOf x)) (q.2.cells.zipIdx.foldl (fun cs (c, j) => cs.setIfInBounds (i * n + j) c) cells) c (by simpa using hl)
        (fun i p' q' h1 h2 => hr (i + 1) p' q' (by simpa using h1) (by simpa using h2)) hs' (by
          rw [← Array.foldl_toList, Array.toList_zipIdx, hfs, flat_set hs i _ hc3]
          simp only [Nat.add_zero, e3]
          exact VRs.append (VRs.append (VRs.take _ hz) hcs) (VRs.drop _ hz)) (by
          rw [← Array.foldl_toList, Array.toList_zipIdx, hfs]
          intro v hv
          rcases List.mem_append.1 hv with hv | hv
          · rcases List.mem_append.1 hv with hv | hv
            · exact h1 v (List.mem_of_mem_take hv)
            · exact hone v hv
          · exact h1 v (List.mem_of_mem_drop hv)) hk
      refine ⟨cells', ?_, g2, g3, by simpa using g4, g5⟩
      simp only [Instr.fill]
      simp only at e1
      rw [← e1, hp]
      have e4 : q.2.cells.size = n := by simpa using e3
      have : ¬ ((q.2.cells.size ≠ n || i * n + q.2.cells.size > cells.size) = true) := by
        simp [e4]; omega
      simp only [this]
      exact g1
theorem rep_cells {n : Nat} {z : List AV} {zv : Array Value} (hz : VRs μ h z zv.toList) (hn : z.length = n) (hp : 0 < n) (len : Nat) :
    VRs μ h (List.replicate len z).flatten ((Array.range (len * n)).map (zv[· % zv.size]!)).toList := by
  have hzs : zv.size = n := by rw [← Array.length_toList, ← hz.length, hn]
  have hfl : (List.replicate len z).flatten.length = len * n := by simp [hn]
  refine VRs.of_get (by rw [hfl]; simp) fun i a v h1 h2 => ?_
  have hi : i < len * n := by rw [← hfl]; exact (List.getElem?_eq_some_iff.1 h1).1
  have h3 : (List.replicate len z).flatten[i]? = z[i % n]? := by
    have hj : i % n < z.length := by rw [hn]; exact Nat.mod_lt _ hp
    have hd : i / n < len := (Nat.div_lt_iff_lt_mul hp).2 hi
    have ek : i / n * n + i % n = i := by rw [Nat.mul_comm]; exact Nat.div_add_mod i n
    -- without flat_get, since z may hold what memory may not
    have aux : ∀ (len q : Nat), q < len → (List.replicate len z).flatten[q * n + i % n]? = z[i % n]? := by
      intro len
      induction len with
      | zero => intro q hq; omega
      | succ len ih =>
        intro q hq
        rw [List.replicate_succ, List.flatten_cons]
        cases q with
        | zero => simp only [Nat.zero_mul, Nat.zero_add]; exact List.getElem?_append_left hj
        | succ q =>
          rw [List.getElem?_append_right (by rw [hn, Nat.add_mul]; omega), ← ih q (by omega)]
          congr 1
          rw [hn, Nat.add_mul]
          omega
    have := aux len (i / n) hd
    rwa [ek] at this
  rw [h3] at h1
  obtain ⟨u, g1, g2⟩ := VRs.get hz _ _ h1
  have h4 : ((Array.range (len * n)).map (zv[· % zv.size]!)).toList[i]? = some u := by
    have g3 : zv[i % n]? = some u := by simpa using g1
    have hj : i % n < zv.size := (Array.getElem?_eq_some_iff.1 g3).1
    have g4 : zv[i % n]! = u := by rw [getElem!_pos zv _ hj]; rw [Array.getElem?_eq_getElem hj] at g3; injection g3
    simp [hi, hzs]
    exact g4
  rw [h4] at h2
  injection h2 with h2
  subst h2
  exact g2
theorem buildSlice_sound (R : Rel μ h w) {base n len : Nat} {z a : AV} {e : Eff} {ty elem : TypeId} {parts : List (Nat × AV)} {vparts : List (Nat × Value)} (he : elemOf P ty = some elem) (hs : szOf P elem = some n)
    (hz : zeroAV P elem = some z) (hzo : (cellsOf z).all okC = true ∧ (cellsOf z).length = n) (hbig : len * n ≤ 16777216) (hpos : 0 < n) (hl : parts.length = vparts.length)
    (hr : ∀ (i : Nat) (p : Nat × AV) (q : Nat × Value), parts[i]? = some p → vparts[i]? = some q → p.1 = q.1 ∧ VR μ h p.2 q.2)
    (hk : bsE n (cellsOf z) len parts base = some (a, e)) (hd : h[base]? = some .dead) :
    ∃ w' u μ', (Instr.buildSlice ty len vparts.toArray).run P w = .ok u w' ∧ Step μ h w μ' (apAt h base e) w' ∧ VR μ' (apAt h base e) a u := by
  unfold bsE at hk
  split at hk <;> try (simp at hk; done)
  rename_i es hes
  simp only [Option.some.injEq, Prod.mk.injEq] at hk
  obtain ⟨rfl, rfl⟩ := hk
  have hlt : base < h.length := (List.getElem?_eq_some_iff.1 hd).1
  obtain ⟨zv, hzv, hzr⟩ := zero_sound (μ := μ) (h := h) (w := w) hz
  have hzc := VR.cells hzr hzo.1
  have hrep := rep_cells hzc hzo.2 hpos len
  have hone0 : ∀ v ∈ ((Array.range (len * n)).map (zv.cells[· % zv.cells.size]!)).toList, v.oneCell' = true := by
    refine VRs.one hrep ?_
    rw [List.all_eq_true]
    intro c hc
    obtain ⟨l, hl1, hl2⟩ := List.mem_flatten.1 hc
    rw [List.eq_of_mem_replicate hl1] at hl2
    exact List.all_eq_true.1 hzo.1 c hl2
  obtain ⟨cells', g1, g2, g3, g4, g5⟩ := fillS_sound (μ := μ) (h := h) (n := n) (place := fun i => some (i * n, n)) (fun _ => rfl) parts vparts (List.replicate len (cellsOf z)) _ es hl hr
    (by intro y hy; rw [List.eq_of_mem_replicate hy]; exact ⟨hzo.2, fun c hc => List.all_eq_true.1 hzo.1 c hc⟩) hrep hone0 hes
  have hlen : es.length = len := by simpa using g4
  have hcs : cells'.size = es.length * n := by rw [← Array.length_toList, ← g2.length, flat_length g3]
  have hcap : es.length ≤ maxLen := by
    rw [hlen]; unfold maxLen
    have : len * 1 ≤ len * n := Nat.mul_le_mul_left _ hpos
    omega
  have hst := new_arr (T := elem) R hd g3 hcs hcap g5 g2 w (Step.refl R)
  refine ⟨_, .slice (some ⟨w.heap.size, 0, none⟩) len len, _, ?_, hst, ?_⟩
  · have hb : ¬ (len * n > 2 ^ 24) := by omega
    have hu := elemOf_under he
    unfold Instr.buildSlice
    by_cases h0 : len * n = 0
    · have hl0 : len = 0 := by rcases Nat.mul_eq_zero.1 h0 with h1 | h1 <;> omega
      subst hl0
      have e1 : ((Array.range (0 * n)).map (zv.cells[· % zv.cells.size]!)) = #[] := by simp
      rw [e1] at g1
      have hb0 : ¬ ((0 : Nat) > 2 ^ 24) := by omega
      have e2 : ∀ z' : Array Value, (Array.range 0).map (z'[· % z'.size]!) = #[] := by simp
      simp only [Sem.run_bind, run_underlying hu, Result.andThen_ok, run_sizeOf' hs, hb0, if_false, Sem.run_pure, h0, if_true, e2]
      rw [g1]
      simp [newRow, newObj, Sem.run_bind, Sem.run]
    · simp only [Sem.run_bind, run_underlying hu, Result.andThen_ok, run_sizeOf' hs, hb, if_false, Sem.run_pure, h0, hzv]
      rw [g1]
      simp [newRow, newObj, Sem.run_bind, Sem.run]
  · simp only [VR, apAt, EN]
    refine ⟨_, _, rfl, Nat.le_refl _, fun _ => rfl, fun _ => rfl, es, true, false, by simp [hlt], by simp [hlen], fun _ => ?_⟩
    simp only [Mu.set_loc, if_true, SlOk]
    exact ⟨_, rfl, by simp [hlen], fun _ => by simp⟩
theorem updateKV_sound {eq : Value → Value → Option Bool} {k : Value} {v : AV} : ∀ {kvs kvs' : List (Value × AV)} (i : Nat), updateKV kvs eq k v = some kvs' →
    (∃ j a, Found k eq kvs i (some (i + j, a)) ∧ j < kvs.length ∧ kvs' = kvs.set j (k, v) ∧ ∃ k', kvs[j]? = some (k', a) ∧ eq k k' = some true) ∨ (Found k eq kvs i none ∧ kvs' = kvs ++ [(k, v)])
  | [], kvs', i, hk => by simp [updateKV] at hk; subst hk; exact .inr ⟨.nil i, rfl⟩
  | (k', a) :: kvs, kvs', i, hk => by
    simp only [updateKV] at hk
    split at hk
    · rename_i he; simp at hk; subst hk; exact .inl ⟨0, a, .here he, by simp, rfl, k', rfl, he⟩
    · rename_i he
      simp only [Option.map_eq_some_iff] at hk
      obtain ⟨r, hr, rfl⟩ := hk
      rcases updateKV_sound (i + 1) hr with ⟨j, b, h1, h2, rfl, k'', h3, h4⟩ | ⟨h1, rfl⟩
      · refine .inl ⟨j + 1, b, .there he (by rw [show i + (j + 1) = i + 1 + j by omega]; exact h1), by simpa using h2, by simp, k'', by simpa using h3, h4⟩
      · exact .inr ⟨.there he h1, rfl⟩
    · simp at hk
theorem mup_sound (R : Rel μ h w) {ty kt et : TypeId} {d : TypeDesc} {m kk x a : AV} {e : Eff} {v v' u : Value} (hu : P.underlying ty = some (.map kt et)) (hkt : P.underlying kt = some d)
    (hm : VR μ h m v) (hkk : VR μ h kk v') (hx : VR μ h x u) (hk : mupE P kt m kk x h = some (a, e)) (base : Nat) :
    ∃ w' μ', (Instr.mapUpdate ty v v' u).run P w = .ok () w' ∧ Step μ h w μ' (apAt h base e) w' ∧ a = .u := by
  unfold mupE at hk
  split at hk <;> try (simp at hk; done)
  rename_i id kv hkv
  obtain rfl := VR.toV hkk hkv
  split at hk <;> try (simp at hk; done)
  rename_i kvs ho
  split at hk <;> try (simp at hk; done)
  rename_i hok
  split at hk <;> try (simp at hk; done)
  rename_i kvs' hupd
  simp only [Option.some.injEq, Prod.mk.injEq] at hk
  obtain ⟨rfl, rfl⟩ := hk
  simp only [VR] at hm
  obtain ⟨kvs0, blk, ho', hmu, rfl⟩ := hm
  obtain ⟨blk', hmu', es, clock, hh, hl, hes⟩ := R.obj _ _ ho
  rw [hmu] at hmu'
  injection hmu' with e1
  subst e1
  have hE : EntsOk μ h kvs es.toList := ⟨by simpa using hl, fun i k a e h1 h2 => hes i k a e h1 (by simpa using h2)⟩
  have hck := keyOk_run (w := w) hok false
  have hg : (getObj blk).run P w = .ok (.map es clock) w := by simp [getObj, Sem.run, hh]
  have hlt : blk < w.heap.size := (Array.getElem?_eq_some_iff.1 hh).1
  -- the store
  have put : ∀ (es' : Array MapEntry) (c' : Nat), (setObj blk (.map es' c')).run P w = .ok () { w with heap := w.heap.setIfInBounds blk (.map es' c') } := by
    intro es' c'; simp [setObj, Sem.run, hh]
  have step : ∀ (es' : Array MapEntry) (c' : Nat), kvs'.length = es'.size → (∀ (μ1 : Mu) (h1 : Hp), Evo μ h μ1 h1 → ∀ (i : Nat) (k : Value) (a : AV) (e : MapEntry), kvs'[i]? = some (k, a) → es'[i]? = some e → e.key = k ∧ VR μ1 h1 a e.val) →
      Step μ h w (μ.set id (μ id)) (h.set id (.map kvs')) { w with heap := w.heap.setIfInBounds blk (.map es' c') } := by
    intro es' c' hl' hr'
    refine Step.upd R (loc := μ id) ho ⟨kvs', rfl, rfl⟩ ?_ (fun b x c e => .inr ⟨rfl, x, c, e⟩) rfl ?_
    · refine ⟨rfl, rfl, rfl, by simp, fun k hk hn => ?_⟩
      simp only [Array.getElem?_setIfInBounds]
      rw [if_neg]
      intro e
      exact hn ⟨rfl, 0, 0, by rw [← e]; exact hmu⟩
    · intro hE'
      exact ⟨blk, by simp [hmu], es', c', by simp [hlt], hl', hr' _ _ hE'⟩
  rcases updateKV_sound 0 hupd with ⟨j, b, hf, hj, rfl, k', hk', hq⟩ | ⟨hf, rfl⟩
  · rw [Nat.zero_add] at hf
    obtain ⟨r', h1, -, h3⟩ := run_findKey (w := w) hkt hE hf
    obtain ⟨ov, rfl, -⟩ := h3 j b rfl
    have hje : j < es.size := by rw [← hl]; exact hj
    have hkey : (es[j]).key = k' := (hes j k' b es[j] hk' (Array.getElem?_eq_getElem hje)).1
    have hsb := (keyEq_run hq).2 rfl
    have hst := step (es.modify j fun e => { e with key := v', val := u }) clock (by simp [hl]) (by
      intro μ1 h1 hE1 i k a e g1 g2
      by_cases hij : i = j
      · subst hij
        rw [List.getElem?_set_self hj] at g1
        injection g1 with g1
        injection g1 with g3 g4
        subst g3 g4
        rw [Array.getElem?_modify, if_pos rfl, Array.getElem?_eq_getElem hje] at g2
        simp only [Option.map_some, Option.some.injEq] at g2
        subst g2
        exact ⟨rfl, VR.evo hE1 _ _ hx⟩
      · rw [List.getElem?_set_ne (Ne.symm hij)] at g1
        simp only [Array.getElem?_modify, Ne.symm hij, if_false] at g2
        obtain ⟨p, q⟩ := hes i k a e g1 g2
        exact ⟨p, VR.evo hE1 _ _ q⟩)
    refine ⟨_, _, ?_, hst, rfl⟩
    have hkts : (Instr.keyThatStays (((es[j]?).map (·.key)).getD v') v').run P w = .ok v' w := by
      simp [Instr.keyThatStays, Array.getElem?_eq_getElem hje, hkey, hsb]
    simp [Instr.mapUpdate, Sem.run_bind, run_underlying hu, hg, hck, h1, hkts, put]
  · obtain ⟨r', h1, h2, -⟩ := run_findKey (w := w) hkt hE hf
    obtain rfl := h2 rfl
    have hst := step (es.push { key := v', val := u, born := clock }) (clock + 1) (by simp [hl]) (by
      intro μ1 h1 hE1 i k a e g1 g2
      rcases Nat.lt_or_ge i kvs.length with hi | hi
      · rw [List.getElem?_append_left hi] at g1
        rw [Array.getElem?_push, if_neg (by omega)] at g2
        obtain ⟨p, q⟩ := hes i k a e g1 g2
        exact ⟨p, VR.evo hE1 _ _ q⟩
      · rw [List.getElem?_append_right hi] at g1
        have hi0 : i - kvs.length = 0 := by
          rcases Nat.eq_zero_or_pos (i - kvs.length) with h0 | h0
          · exact h0
          · rw [List.getElem?_eq_none (by simp; omega)] at g1; simp at g1
        rw [hi0] at g1
        simp at g1
        obtain ⟨rfl, rfl⟩ := g1
        have : i = es.size := by omega
        subst this
        simp at g2
        subst g2
        exact ⟨rfl, VR.evo hE1 _ _ hx⟩)
    refine ⟨_, _, ?_, hst, rfl⟩
    simp [Instr.mapUpdate, Sem.run_bind, run_underlying hu, hg, hck, h1, put]
end Go.AM
