import Derived.Test.YtlnjnfbdcdmacaaAmAct2
namespace Go.AM
open Go.RowKit
set_option linter.unusedVariables false
set_option linter.unusedSimpArgs false
variable {P : Program} {μ μ' : Mu} {h h' : Hp} {w w' : World}
/-- What a slice's value is good for. -/
structure Reads (P : Program) (μ : Mu) (h : Hp) (w : World) (v : Value) (sz : Nat) (news : List (List AV)) : Prop where
  val : ∃ A c, v = .slice A news.length c ∧ (news ≠ [] → ∃ a vs, A = some a ∧ VRs μ h news.flatten vs ∧ vs.length = news.length * sz ∧ (∀ u ∈ vs, u.oneCell' = true) ∧ ∀ j u, vs[j]? = some u → w.cell? (a.add j) = some u)
  sized : Sized sz news
theorem arr_cells (R : Rel μ h w) {id sz : Nat} {es : List (List AV)} {own nil : Bool} {blk o cap : Nat} (ho : h[id]? = some (.arr sz es own nil)) (hm : μ id = .real blk o cap) (off : Nat) :
    ∀ len, off + len ≤ es.length → ∃ vs, VRs μ h ((es.drop off).take len).flatten vs ∧ vs.length = len * sz ∧ (∀ u ∈ vs, u.oneCell' = true) ∧ ∀ j u, vs[j]? = some u → w.cell? ⟨blk, o + off * sz + j, none⟩ = some u := by
  intro len
  induction len with
  | zero => intro _; exact ⟨[], by simp [VRs], by simp, by simp, by simp⟩
  | succ len ih =>
    intro hle
    obtain ⟨vs, h1, h2, h3, h4⟩ := ih (by omega)
    have hlt : off + len < es.length := by omega
    have hel := List.getElem?_eq_getElem hlt
    have hsz := (elem_len R ho hel).1
    obtain ⟨us, g1, g2, g3, g4⟩ := cells_at R ho hel hm 0 sz (by omega)
    simp only [List.drop_zero] at g2
    rw [List.take_of_length_le (by omega)] at g2
    refine ⟨vs ++ us, ?_, ?_, ?_, ?_⟩
    · have : (es.drop off).take (len + 1) = (es.drop off).take len ++ [es[off + len]] := by
        rw [List.take_add_one, List.getElem?_drop, hel]; rfl
      rw [this, List.flatten_append]
      exact VRs.append h1 (by simpa using g2)
    · rw [List.length_append, h2, g1, Nat.add_mul]; omega
    · intro u hu
      rcases List.mem_append.1 hu with hu | hu
      · exact h3 u hu
      · exact g3 u hu
    · intro j u hu
      rcases Nat.lt_or_ge j vs.length with hj | hj
      · rw [List.getElem?_append_left hj] at hu; exact h4 j u hu
      · rw [List.getElem?_append_right hj] at hu
        have := g4 _ u hu
        rw [← this]
        congr 2
        rw [h2] at hj ⊢
        rw [Nat.add_mul]
        omega
theorem read_sound (R : Rel μ h w) {x : AV} {v : Value} {news : List (List AV)} {n : Nat} (hx : VR μ h x v) (hk : readSl h x = some news) (hn : news.all (fun e => e.length == n) = true) : Reads P μ h w v n news := by
  unfold readSl at hk
  split at hk <;> try (simp at hk; done)
  · simp only [Option.some.injEq] at hk
    subst hk
    simp only [VR] at hx
    obtain ⟨-, rfl⟩ := hx
    exact ⟨⟨none, 0, rfl, fun h => absurd rfl h⟩, fun e he => by simp at he⟩
  · rename_i sz nl es
    simp only [Option.some.injEq] at hk
    subst hk
    simp only [VR] at hx
    obtain ⟨A, c, rfl, hlc, -, -, -, hsz, hq⟩ := hx
    have hS : Sized n es := fun e he => ⟨by simpa using List.all_eq_true.1 hn e he, (hsz e he).2⟩
    refine ⟨⟨A, c, rfl, fun hne => ?_⟩, hS⟩
    obtain ⟨blk, o, vs, rfl, him, hf, hcell⟩ := hq (List.length_pos_iff.2 hne)
    have hfl := hf.flat.lift h
    have hl : vs.length = es.length * n := by rw [← hfl.length]; exact flat_length hS
    exact ⟨_, vs, rfl, hfl, hl, fun u hu => by
      obtain ⟨j, hj⟩ := List.getElem?_of_mem hu
      exact (hcell j u hj).2, fun j u hu => by rw [Addr.add_mid]; exact (cell_same (R.imm _ him).2.1 _).trans (hcell j u hu).1⟩
  · rename_i sz id off len fr full
    split at hk <;> try (simp at hk; done)
    rename_i sz' es own nil ho
    split at hk <;> try (simp at hk; done)
    rename_i hc
    obtain ⟨hfr, rfl, hle⟩ := hc
    simp only [Option.some.injEq] at hk
    subst hk
    simp only [VR] at hx
    obtain ⟨A, c, rfl, hlc, hA, -, es', own', nil', ho', -, hq⟩ := hx
    rw [ho] at ho'
    injection ho' with ho'
    injection ho' with e1 e2 e3 e4
    subst e2 e3 e4
    have hlen : ((es.drop off).take len).length = len := by simp; omega
    have hS : Sized n ((es.drop off).take len) := by
      intro e he
      refine ⟨by simpa using List.all_eq_true.1 hn e he, fun c hc => ?_⟩
      exact ((R.obj _ _ ho).1 e (List.mem_of_mem_drop (List.mem_of_mem_take he))).2 c hc
    refine ⟨⟨A, c, by rw [hlen], fun hne => ?_⟩, hS⟩
    have hpos : 0 < len := by
      rcases Nat.eq_zero_or_pos len with h0 | h0
      · subst h0; simp at hne
      · exact h0
    have hsl := hq hfr.symm
    have hO := (R.obj _ _ ho).2
    unfold SlOk at hsl
    split at hsl
    · rename_i blk o cap hmu
      obtain ⟨a, rfl, hcap, hne'⟩ := hsl
      have := hne' (by omega)
      subst this
      obtain ⟨vs, g1, g2, g3, g4⟩ := arr_cells R ho hmu off len hle
      -- the elements' size is the object's
      have hszn : sz' = n := by
        have hmem : es[off]'(by omega) ∈ (es.drop off).take len := by
          have : ((es.drop off).take len)[0]? = some (es[off]'(by omega)) := by
            rw [List.getElem?_take, if_pos hpos, List.getElem?_drop, Nat.add_zero]
            exact List.getElem?_eq_getElem _
          exact List.mem_of_getElem? this
        have h1 := (hS _ hmem).1
        have h2 := (elem_len R ho (List.getElem?_eq_getElem (show off < es.length by omega))).1
        omega
      subst hszn
      exact ⟨_, vs, rfl, g1, by rw [hlen]; exact g2, g3, fun j u hu => by rw [Addr.add_mid]; exact g4 j u hu⟩
    · rename_i A' hmu
      rw [hmu] at hO
      obtain ⟨rfl, _⟩ := hO
      simp at hle
      omega
theorem run_append_empty {t ty e : TypeId} {n : Nat} (ht : P.underlying t = some (.slice e)) (hs : szOf P e = some n) (b : Option Addr) (sLen sCap : Nat) (A : Option Addr) (c : Nat) (hle : sLen ≤ sCap) (w : World) :
    (Builtin.append_ #[t, t] ty #[.slice b sLen sCap, .slice A 0 c]).run P w = .ok (.slice b sLen sCap) w := by
  have hf : ∀ w, (Builtin.firstCells n 0 (.slice A 0 c)).run P w = .ok #[] w := by
    intro w
    cases A with
    | none => rfl
    | some a => simp [Builtin.firstCells, loadCells, loadCellsFrom, Sem.run]
  cases b with
  | none => simp [Builtin.append_, run_underlying ht, run_sizeOf' hs, Sem.run_bind, Builtin.lenOf, hle, hf]
  | some b => simp [Builtin.append_, run_underlying ht, run_sizeOf' hs, Sem.run_bind, Builtin.lenOf, hle, hf, storeCells]
theorem all_okC_flat {sz : Nat} {es : List (List AV)} (hs : Sized sz es) : es.flatten.all okC = true := by
  rw [List.all_eq_true]
  intro c hc
  obtain ⟨l, h1, h2⟩ := List.mem_flatten.1 hc
  exact (hs l h1).2 c h2
theorem Sized.append {n : Nat} {a b : List (List AV)} (h1 : Sized n a) (h2 : Sized n b) : Sized n (a ++ b) := fun e he => (List.mem_append.1 he).elim (h1 e) (h2 e)
theorem set_same {α : Type} {l : List α} {i : Nat} {x : α} (hx : l[i]? = some x) : l.set i x = l := by
  obtain ⟨hi, e⟩ := List.getElem?_eq_some_iff.1 hx
  subst e
  exact List.set_getElem_self hi
/-- An array that has grown into a new block. -/
theorem ORel.grown {id sz need old : Nat} {all : List (List AV)} {vs : List Value} {z : Array Value} {T : TypeId} {wb : World} (hs : Sized sz all) (hl : all.length = need) (hv : VRs μ h all.flatten vs) (hz : z.size = sz)
    (hone : ∀ v ∈ vs, v.oneCell' = true) (hm63 : need ≤ maxLen) (hm : μ id = .real wb.heap.size 0 (grownCap w need old T)) :
    ORel μ h (wb.alloc (.cells (vs.toArray ++ Builtin.zeroCells z (grownCap w need old T - need)) T)) id (.arr sz all true false) := by
  have hge := grownCap_ge w need old T
  have hfl := flat_length hs
  have hvl : vs.length = need * sz := by rw [← hv.length, hfl, hl]
  have htk : (vs.toArray ++ Builtin.zeroCells z (grownCap w need old T - need)).toList.take (all.length * sz) = vs := by
    rw [hl, ← hvl]; simp
  refine ORel.own_arr (cur := _) (T := T) hm hs (by omega) (grownCap_le_maxLen w need old T hm63) (heap_alloc_new wb _) ?_ ?_ ?_
  · simp only [Array.size_append, List.size_toArray, size_zeroCells, hz, hvl, ← Nat.add_mul]
    congr 1
    omega
  · rw [htk]; exact hone
  · rw [htk]; exact hv
theorem szOf_bytes {e n b : Nat} (hs : szOf P e = some n) (hb : bytesOf P e = some b) {z : AV} (hz : zeroAV P e = some z) : ∃ i zv, P.info? e = some i ∧ i.size = n ∧ i.bytes = b ∧ i.zero = some zv ∧ ofV1 zv = some z := by
  obtain ⟨i, hi, h1⟩ := szOf_info hs
  unfold bytesOf at hb
  unfold zeroAV at hz
  rw [hi] at hb hz
  obtain ⟨zv, h2, h3⟩ := Option.bind_eq_some_iff.1 hz
  exact ⟨i, zv, hi, h1, by simpa using hb, by simpa using h2, h3⟩
theorem zero_size (μ : Mu) {zv : Value} {z : AV} (hz : ofV1 zv = some z) (ok : (cellsOf z).all okC = true) : zv.cells.size = (cellsOf z).length := by
  have h1 : VR μ [] z zv := VR.ofV1 hz
  have := (VR.cells h1 ok).length
  simpa using this.symm
theorem app_sound (R : Rel μ h w) {base n b : Nat} {s x a : AV} {e : Eff} {v v' : Value} {t ty el : TypeId} {z : AV} (ht : P.underlying t = some (.slice el)) (hs : szOf P el = some (n + 1)) (hb : bytesOf P el = some b)
    (hz : zeroAV P el = some z) (hzn : (cellsOf z).length = n + 1) (hzo : (cellsOf z).all okC = true) (hbig : ∀ m, m * b ≤ 140737488355328 → m ≤ maxLen)
    (hv : VR μ h s v) (hx : VR μ h x v') (hk : appE (n + 1) b s x h base = some (a, e)) (hd : e.news ≠ [] → h[base]? = some .dead) :
    ∃ w' u μ', (Builtin.append_ #[t, t] ty #[v, v']).run P w = .ok u w' ∧ Step μ h w μ' (apAt h base e) w' ∧ VR μ' (apAt h base e) a u := by
  obtain ⟨i, zv, hi, hsz, hby, hzv, hzof⟩ := szOf_bytes hs hb hz
  have hzs : zv.cells.size = n + 1 := by rw [zero_size μ hzof hzo, hzn]
  unfold appE at hk
  split at hk <;> try (simp at hk; done)
  rename_i news hnews
  split at hk <;> try (simp at hk; done)
  · -- appended to nil
    simp only [VR] at hv
    obtain ⟨-, rfl⟩ := hv
    split at hk
    · rename_i h0
      simp only [Option.some.injEq, Prod.mk.injEq] at hk
      obtain ⟨rfl, rfl⟩ := hk
      have hn0 : news = [] := List.eq_nil_of_length_eq_zero h0
      subst hn0
      obtain ⟨⟨A, c, rfl, -⟩, -⟩ := read_sound (P := P) (n := 0) R hx hnews (by simp)
      exact ⟨w, _, μ, run_append_empty ht hs none 0 0 A c (Nat.le_refl _) w, Step.refl R, by simp [VR, gv]⟩
    · rename_i h0
      split at hk <;> try (simp at hk; done)
      rename_i hc
      simp only [Option.some.injEq, Prod.mk.injEq] at hk
      obtain ⟨rfl, rfl⟩ := hk
      obtain ⟨⟨A, c, rfl, hcell⟩, hS⟩ := read_sound (P := P) R hx hnews hc.2
      obtain ⟨ad, vs, rfl, hvs, hvl, hone, hat⟩ := hcell (by rintro rfl; simp at h0)
      have hd' := hd (by simp)
      have hlt : base < h.length := (List.getElem?_eq_some_iff.1 hd').1
      have h63 := hbig _ hc.1
      have hr := run_append_nil (P := P) w t ty el i zv ht hi hzv ad news.length c vs (by rw [hvl, hsz]) hat (by omega) (by unfold maxLen at h63; omega) (by rw [hby]; omega)
      have hst : Step μ h w (μ.set base (.real w.heap.size 0 (grownCap w news.length 0 el))) (h.set base (.arr (n + 1) news true false)) (w.drew.alloc (.cells (vs.toArray ++ Builtin.zeroCells zv.cells (grownCap w news.length 0 el - news.length)) el)) := by
        refine (Step.drew R).trans (Step.upd (Step.drew R).rel (loc := .real w.heap.size 0 (grownCap w news.length 0 el)) hd' trivial (Frame.alloc _ _ _) ?_ rfl ?_)
        · intro b x c e; injection e with e1 e2 e3; subst e1; exact .inl (Nat.le_refl _)
        · intro hE
          exact ORel.grown (w := w) (wb := w.drew) hS rfl (VRs.evo hE _ _ hvs) hzs hone h63 (by simp)
      refine ⟨_, _, _, hr, hst, ?_⟩
      simp only [VR, apAt]
      refine ⟨_, _, rfl, grownCap_ge _ _ _ _, fun _ => rfl, fun h => by simp at h, news, true, false, by simp [hlt], Nat.le_refl _, fun _ => ?_⟩
      simp only [Mu.set_loc, if_true, SlOk]
      exact ⟨_, rfl, by omega, fun _ => by simp⟩
  · rename_i szx id off len fr full
    split at hk <;> try (simp at hk; done)
    rename_i sz es own nil ho
    split at hk <;> try (simp at hk; done)
    rename_i hc
    obtain ⟨hfr, rfl, hbytes, hall⟩ := hc
    obtain ⟨⟨A, c, rfl, hcell⟩, hS⟩ := read_sound (P := P) R hx hnews hall
    have h63 := hbig _ hbytes
    simp only [VR] at hv
    obtain ⟨A0, c0, rfl, hlc, hA0, hfull, es', own', nil', ho', -, hq⟩ := hv
    rw [ho] at ho'
    injection ho' with ho'
    injection ho' with e1 e2 e3 e4
    subst e1 e2 e3 e4
    have hsl := hq hfr.symm
    have hO := R.obj _ _ ho
    split at hk
    · -- full: a new array
      rename_i hcf
      obtain ⟨hf, hin, hor⟩ := hcf
      simp only [Option.some.injEq, Prod.mk.injEq] at hk
      obtain ⟨rfl, rfl⟩ := hk
      have hc0 : len = c0 := (hfull hf).symm
      subst hc0
      have hd' := hd (by simp)
      have hlt : base < h.length := (List.getElem?_eq_some_iff.1 hd').1
      have hSo : Sized (n + 1) ((es.drop off).take len) := fun e he => hO.1 e (List.mem_of_mem_drop (List.mem_of_mem_take he))
      have hSall := hSo.append hS
      have hol : ((es.drop off).take len).length = len := by simp; omega
      by_cases hm0 : news = []
      · -- nothing appended to an empty slice
        subst hm0
        have hl0 : len = 0 := by rcases hor with h1 | h1; · exact h1
                                 · simp at h1
        subst hl0
        refine ⟨w, _, (μ.set base (.virt A0)), run_append_empty ht hs A0 0 0 A c (Nat.le_refl _) w, ?_, ?_⟩
        · refine Step.upd R (loc := .virt A0) hd' trivial (Frame.refl _ _) (fun b x c e => by cases e) rfl ?_
          intro hE
          refine ⟨by simp, ?_⟩
          simp only [Mu.set_loc, if_true]
          refine ⟨by simp, ?_, trivial⟩
          have h2 := hO.2
          unfold SlOk at hsl
          split at hsl
          · rename_i blk o cap hmu; rw [hmu] at h2; obtain ⟨a', rfl, _⟩ := hsl; simp [h2.1]
          · rename_i A' hmu; rw [hmu] at h2; obtain ⟨rfl, _⟩ := hsl; simp [h2.2.1]
        · simp only [VR, apAt]
          refine ⟨_, _, rfl, Nat.le_refl _, fun h => by simp at h, fun h => by simp at h, [], true, (nil && 0 + ([] : List (List AV)).length == 0), ?_, by simp, fun _ => ?_⟩
          · simp [hlt]
          · simp [SlOk]
      · obtain ⟨ad, vs, rfl, hvs, hvl, hone, hat⟩ := hcell hm0
        have hml : 0 < news.length := List.length_pos_iff.2 hm0
        -- the elder elements
        have hold : ∃ olds, VRs μ h ((es.drop off).take len).flatten olds ∧ olds.length = len * (n + 1) ∧ (∀ u ∈ olds, u.oneCell' = true) ∧ (∀ b0, A0 = some b0 → ∀ j u, olds[j]? = some u → w.cell? (b0.add j) = some u) ∧ (A0 = none → len = 0) := by
          by_cases hl0 : len = 0
          · subst hl0; exact ⟨[], by simp [VRs], by simp, by simp, by simp, fun _ => rfl⟩
          · unfold SlOk at hsl
            split at hsl
            · rename_i blk o cap hmu
              obtain ⟨a', rfl, hcap, hne⟩ := hsl
              obtain ⟨olds, g1, g2, g3, g4⟩ := arr_cells R ho hmu off len (by omega)
              refine ⟨olds, g1, g2, g3, ?_, fun h => by simp at h⟩
              intro b0 hb0 j u hu
              injection hb0 with hb0
              subst hb0
              rw [hne hl0, Addr.add_mid]
              exact g4 j u hu
            · exact absurd hsl.2.1 hl0
        obtain ⟨olds, ho1, ho2, ho3, ho4, ho5⟩ := hold
        have hvall := VRs.append ho1 hvs
        rw [← List.flatten_append] at hvall
        have honeall : ∀ u ∈ olds ++ vs, u.oneCell' = true := fun u hu => (List.mem_append.1 hu).elim (ho3 u) (hone u)
        have hrun : (Builtin.append_ #[t, t] ty #[.slice A0 len len, .slice (some ad) news.length c]).run P w =
            .ok (.slice (some ⟨w.heap.size, 0, none⟩) (len + news.length) (grownCap w (len + news.length) len el)) (w.drew.alloc (.cells ((olds ++ vs).toArray ++ Builtin.zeroCells zv.cells (grownCap w (len + news.length) len el - (len + news.length))) el)) := by
          cases A0 with
          | none =>
            have hl0 := ho5 rfl
            subst hl0
            have : olds = [] := List.eq_nil_of_length_eq_zero (by simpa using ho2)
            subst this
            have hr := run_append_nil (P := P) w t ty el i zv ht hi hzv ad news.length c vs (by rw [hvl, hsz]) hat hml (by unfold maxLen at h63; omega) (by rw [hby]; rw [Nat.zero_add] at hbytes; omega)
            simpa using hr
          | some b0 =>
            have hr := run_append_grow (P := P) w t ty el i zv ht hi hzv b0 len len olds (by rw [ho2, hsz]) (ho4 b0 rfl) ad news.length c vs (by rw [hvl, hsz]) hat (by omega) (by unfold maxLen at h63; omega)
              (by rw [hby]; exact growslice_fits (by omega) hbytes)
            rw [hr]
            simp
        have hst : Step μ h w (μ.set base (.real w.heap.size 0 (grownCap w (len + news.length) len el))) (h.set base (.arr (n + 1) ((es.drop off).take len ++ news) true false)) (w.drew.alloc (.cells ((olds ++ vs).toArray ++ Builtin.zeroCells zv.cells (grownCap w (len + news.length) len el - (len + news.length))) el)) := by
          refine (Step.drew R).trans (Step.upd (Step.drew R).rel (loc := .real w.heap.size 0 (grownCap w (len + news.length) len el)) hd' trivial (Frame.alloc _ _ _) ?_ rfl ?_)
          · intro b x c e; injection e with e1 e2 e3; subst e1; exact .inl (Nat.le_refl _)
          · intro hE
            exact ORel.grown (w := w) (wb := w.drew) hSall (by simp [hol]) (VRs.evo hE _ _ hvall) hzs honeall h63 (by simp)
        have hnil : (nil && len + news.length == 0) = false := by
          have : (len + news.length == 0) = false := by simp [hm0]
          rw [this, Bool.and_false]
        rw [hnil]
        refine ⟨_, _, _, hrun, hst, ?_⟩
        simp only [VR, apAt]
        refine ⟨_, _, rfl, grownCap_ge _ _ _ _, fun _ => rfl, fun h => by simp at h, _, true, false, by simp [hlt]; rfl, by simp [hol], fun _ => ?_⟩
        simp only [Mu.set_loc, if_true, SlOk]
        exact ⟨_, rfl, by omega, fun _ => by simp⟩
    · -- in place, or moved
      split at hk <;> try (simp at hk; done)
      rename_i hco
      obtain ⟨rfl, rfl, hlf⟩ := hco
      simp only [Option.some.injEq, Prod.mk.injEq] at hk
      obtain ⟨rfl, rfl⟩ := hk
      have hlt : id < h.length := (List.getElem?_eq_some_iff.1 ho).1
      have hle : len = es.length := by omega
      have hSall := hO.1
      have hSall' : Sized (n + 1) (es ++ news) := Sized.append hO.1 hS
      by_cases hm0 : news = []
      · subst hm0
        have hee : h.set id (.arr (n + 1) (es ++ []) true (nil && ([] : List (List AV)).length == 0)) = h := by
          simp
          exact set_same ho
        refine ⟨w, _, μ, run_append_empty ht hs A0 len c0 A c hlc w, ?_, ?_⟩
        · simp only [apAt, List.zipIdx_nil, List.foldl_nil, List.foldl_cons]
          rw [hee]; exact Step.refl R
        · simp only [apAt, List.zipIdx_nil, List.foldl_nil, List.foldl_cons]
          rw [hee]
          simp only [VR, List.length_nil, Nat.add_zero]
          exact ⟨A0, c0, rfl, hlc, hA0, fun h => by simp at h, es, true, nil, ho, by omega, fun _ => hsl⟩
      · obtain ⟨ad, vs, rfl, hvs, hvl, hone, hat⟩ := hcell hm0
        have hml : 0 < news.length := List.length_pos_iff.2 hm0
        have hnil : (nil && news.length == 0) = false := by
          have : (news.length == 0) = false := by simp [hm0]
          rw [this, Bool.and_false]
        rw [hnil]
        -- grown into a new block
        have grow : c0 < len + news.length → ∀ olds : List Value, VRs μ h es.flatten olds → (∀ u ∈ olds, u.oneCell' = true) → olds.length = len * (n + 1) → (∀ b0, A0 = some b0 → ∀ j u, olds[j]? = some u → w.cell? (b0.add j) = some u) → (A0 = none → len = 0 ∧ c0 = 0) →
            ∃ w' u μ', (Builtin.append_ #[t, t] ty #[.slice A0 len c0, .slice (some ad) news.length c]).run P w = .ok u w' ∧ Step μ h w μ' (h.set id (.arr (n + 1) (es ++ news) true false)) w' ∧
              VR μ' (h.set id (.arr (n + 1) (es ++ news) true false)) (.sl (n + 1) id 0 (len + news.length) (fr + news.length) false) u := by
          intro hgt olds ho1 ho3 ho2 ho4 ho5
          have hvall := VRs.append ho1 hvs
          rw [← List.flatten_append] at hvall
          have honeall : ∀ u ∈ olds ++ vs, u.oneCell' = true := fun u hu => (List.mem_append.1 hu).elim (ho3 u) (hone u)
          have hrun : (Builtin.append_ #[t, t] ty #[.slice A0 len c0, .slice (some ad) news.length c]).run P w =
              .ok (.slice (some ⟨w.heap.size, 0, none⟩) (len + news.length) (grownCap w (len + news.length) c0 el)) (w.drew.alloc (.cells ((olds ++ vs).toArray ++ Builtin.zeroCells zv.cells (grownCap w (len + news.length) c0 el - (len + news.length))) el)) := by
            cases A0 with
            | none =>
              obtain ⟨hl0, hc0⟩ := ho5 rfl
              have ho0 : olds = [] := List.eq_nil_of_length_eq_zero (by rw [ho2, hl0]; simp)
              subst ho0
              rw [hl0, hc0]
              have hr := run_append_nil (P := P) w t ty el i zv ht hi hzv ad news.length c vs (by rw [hvl, hsz]) hat hml (by unfold maxLen at h63; omega) (by rw [hby]; rw [hl0] at hbytes; simp at hbytes; omega)
              simpa using hr
            | some b0 =>
              have hr := run_append_grow (P := P) w t ty el i zv ht hi hzv b0 len c0 olds (by rw [ho2, hsz]) (ho4 b0 rfl) ad news.length c vs (by rw [hvl, hsz]) hat hgt (by unfold maxLen at h63; omega)
                (by rw [hby]; exact growslice_fits hgt hbytes)
              rw [hr]
              simp
          have hst : Step μ h w (μ.set id (.real w.heap.size 0 (grownCap w (len + news.length) c0 el))) (h.set id (.arr (n + 1) (es ++ news) true false)) (w.drew.alloc (.cells ((olds ++ vs).toArray ++ Builtin.zeroCells zv.cells (grownCap w (len + news.length) c0 el - (len + news.length))) el)) := by
            refine (Step.drew R).trans (Step.upd (Step.drew R).rel (loc := .real w.heap.size 0 (grownCap w (len + news.length) c0 el)) ho ⟨es ++ news, false, rfl, by simp, fun h => ?_⟩ (Frame.alloc _ _ _) ?_ rfl ?_)
            · simp at h; exact absurd h hm0
            · intro b x c e; injection e with e1 e2 e3; subst e1; exact .inl (Nat.le_refl _)
            · intro hE
              exact ORel.grown (w := w) (wb := w.drew) hSall' (by simp; omega) (VRs.evo hE _ _ hvall) hzs honeall h63 (by simp)
          refine ⟨_, _, _, hrun, hst, ?_⟩
          simp only [VR]
          refine ⟨_, _, rfl, grownCap_ge _ _ _ _, fun _ => rfl, fun h => by simp at h, _, true, false, by simp [hlt]; rfl, by simp; omega, fun _ => ?_⟩
          simp only [Mu.set_loc, if_true, SlOk]
          exact ⟨_, rfl, by omega, fun _ => by simp⟩
        simp only [apAt, List.zipIdx_nil, List.foldl_nil, List.foldl_cons]
        unfold SlOk at hsl
        split at hsl
        · rename_i blk o cap hmu
          obtain ⟨a', rfl, hcap, hne⟩ := hsl
          obtain ⟨cur, T, hbk, hcur, rfl, hlec, hcapm, h1, hr⟩ := ORel.own_flat hO hmu
          have haddr : 0 < c0 → a' = ⟨blk, 0, none⟩ := fun h => by have := hne (by omega); simpa using this
          by_cases hroom : len + news.length ≤ c0
          · -- in place
            have := haddr (by omega)
            subst this
            have hlcap : (len + news.length) * (n + 1) ≤ cap * (n + 1) := Nat.mul_le_mul_right _ (by omega)
            have hfit : len * (n + 1) + vs.length ≤ cur.size := by rw [hvl, hcur, ← Nat.add_mul]; exact hlcap
            have hfr' := run_firstCells_some (P := P) w (n + 1) news.length ad news.length c vs hvl hat
            have hsto := run_storeCells_at P blk (len * (n + 1)) T vs 0 cur w hbk (by simpa using hfit) hone
            simp only [Nat.add_zero] at hsto
            obtain ⟨row, hrow⟩ : ∃ row : Array Value, row = (cur.toList.take (len * (n + 1)) ++ vs ++ cur.toList.drop (len * (n + 1) + vs.length)).toArray := ⟨_, rfl⟩
            rw [← hrow] at hsto
            have hrowsz : row.size = cur.size := by rw [hrow]; simp; omega
            have hset : (w.setRow blk row).heap[blk]? = some (.cells row T (0, 0)) := setRow_heap w blk cur row T (0, 0) hbk
            refine ⟨w.setRow blk row, .slice (some ⟨blk, 0, none⟩) (len + news.length) c0, (μ.set id (μ id)), ?_, ?_, ?_⟩
            · simp [Builtin.append_, run_underlying ht, run_sizeOf' hs, Sem.run_bind, Builtin.lenOf, hroom, hfr', Addr.add_lit, hsto]
            · refine Step.upd R (loc := μ id) ho ⟨es ++ news, false, rfl, by simp, fun _ => rfl⟩ ?_ ?_ rfl ?_
              · exact ⟨rfl, rfl, rfl, by simp, fun k _ hk => setRow_other w blk k _ (fun e => hk ⟨rfl, 0, cap, by rw [e]; exact hmu⟩)⟩
              · intro b x c e
                exact .inr ⟨rfl, x, c, e⟩
              · intro hE
                have htk : row.toList.take ((es ++ news).length * (n + 1)) = cur.toList.take (es.length * (n + 1)) ++ vs := by
                  have hq1 : (cur.toList.take (len * (n + 1))).length = len * (n + 1) := by rw [List.length_take, Array.length_toList]; omega
                  rw [hrow]
                  simp only [List.length_append, Nat.add_mul]
                  have e5 : es.length * (n + 1) + news.length * (n + 1) = (cur.toList.take (len * (n + 1)) ++ vs).length := by rw [List.length_append, hq1, hvl, hle]
                  rw [e5, List.take_left, hle]
                refine ORel.own_arr (cur := row) (T := T) (cap := cap) (blk := blk) (by simp [hmu]) hSall' (by simp; omega) hcapm hset (by rw [hrowsz]; exact hcur) ?_ ?_
                · rw [htk]
                  intro u hu
                  rcases List.mem_append.1 hu with hu | hu
                  · exact h1 u hu
                  · exact hone u hu
                · rw [htk, List.flatten_append]
                  exact VRs.evo hE _ _ (VRs.append hr hvs)
            · simp only [VR]
              refine ⟨_, _, rfl, hroom, fun _ => rfl, fun h => by simp at h, _, true, false, by simp [hlt]; rfl, by simp; omega, fun _ => ?_⟩
              simp only [Mu.set_loc, if_true, hmu, SlOk]
              exact ⟨_, rfl, by omega, fun _ => by simp⟩
          · refine grow (by omega) (cur.toList.take (es.length * (n + 1))) hr h1 ?_ ?_ (fun h => by simp at h)
            · rw [← hr.length, flat_length hO.1, hle]
            · intro b0 hb0 j u hu
              injection hb0 with hb0
              subst hb0
              by_cases hl0 : len = 0
              · have : es.length = 0 := by omega
                rw [this] at hu
                simp at hu
              · have := haddr (by omega)
                subst this
                rw [Addr.add_mid, Nat.zero_add, cell_of_row w blk _ cur T (0, 0) hbk]
                rw [List.getElem?_take] at hu
                split at hu
                · simpa using hu
                · simp at hu
        · rename_i A' hmu
          obtain ⟨rfl, hc0, -⟩ := hsl
          have h2 := hO.2
          rw [hmu] at h2
          obtain ⟨rfl, hnl, -⟩ := h2
          have hl0 : len = 0 := by simpa using hle
          exact grow (by omega) [] (by simp [VRs]) (by simp) (by simp [hl0]) (by simp) (fun _ => ⟨hl0, hc0⟩)
end Go.AM
