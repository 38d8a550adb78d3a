import Derived.Test.YtlnjnfbdcdmacaaAmNat
import Derived.Deep.MidRow
import Derived.Laws.Cells
namespace Go.AM
open Go.RowKit
set_option linter.unusedVariables false
set_option linter.unusedSimpArgs false
variable {P : Program} {μ : Mu} {h : Hp} {w : World}

theorem run_val {s : Sem Value} {a : Value} {w w' : World} (hs : s.run P w = .ok a w') : (do pure (Next.value (← s)) : Sem Next).run P w = .ok (.value a) w' := by
  simp [Sem.run_bind, hs]
theorem szOf_shaped {t n : Nat} (hs : szOf P t = some n) : ∃ d, P.underlying t = some d := by
  unfold szOf at hs
  split at hs
  · rename_i d hd; exact ⟨d, hd⟩
  · simp at hs
theorem szOf_info {t n : Nat} (hs : szOf P t = some n) : ∃ i, P.info? t = some i ∧ i.size = n := by
  unfold szOf at hs
  split at hs <;> try (simp at hs; done)
  cases hi : P.info? t with
  | none => simp [hi] at hs
  | some i => simp [hi] at hs; exact ⟨i, rfl, hs⟩
theorem run_sizeOf' {t n : Nat} (hs : szOf P t = some n) (w : World) : (Go.sizeOf t).run P w = .ok n w := by
  obtain ⟨i, hi, rfl⟩ := szOf_info hs
  simp [Go.sizeOf, typeInfo, hi]
theorem run_isAgg' {t n : Nat} (hs : szOf P t = some n) (w : World) : (isAgg t).run P w = .ok (aggT P t) w := by
  obtain ⟨d, hd⟩ := szOf_shaped hs
  unfold isAgg aggT
  rw [Sem.run_bind, run_underlying hd w]
  simp only [hd, Result.andThen_ok]
  cases d <;> rfl

theorem cell_at (R : Rel μ h w) {id sz idx j : Nat} {es : List (List AV)} {own nil : Bool} {e : List AV} {c : AV}
    (ho : h[id]? = some (.arr sz es own nil)) (he : es[idx]? = some e) (hc : e[j]? = some c) :
    ∃ blk o cap v, μ id = .real blk o cap ∧ w.cell? ⟨blk, o + (idx * sz + j), none⟩ = some v ∧ v.oneCell' = true ∧ VR μ h c v := by
  have := (R.obj id _ ho).2
  cases hm : μ id with
  | virt A => rw [hm] at this; obtain ⟨rfl, _⟩ := this; simp at he
  | real blk o cap =>
    rw [hm] at this
    obtain ⟨v, h1, h2, h3⟩ := this.2.2.2.2.1 idx e j c he hc
    exact ⟨blk, o, cap, v, rfl, h1, h2, h3⟩
theorem elem_len (R : Rel μ h w) {id sz idx : Nat} {es : List (List AV)} {own nil : Bool} {e : List AV}
    (ho : h[id]? = some (.arr sz es own nil)) (he : es[idx]? = some e) : e.length = sz ∧ ∀ c ∈ e, okC c = true :=
  (R.obj id _ ho).1 e (List.mem_of_getElem? he)
/-- A stretch of an element, read. -/
theorem cells_at (R : Rel μ h w) {id sz idx : Nat} {es : List (List AV)} {own nil : Bool} {e : List AV} {blk o cap : Nat}
    (ho : h[id]? = some (.arr sz es own nil)) (he : es[idx]? = some e) (hm : μ id = .real blk o cap) (sub n : Nat) (hn : sub + n ≤ e.length) :
    ∃ vs : List Value, vs.length = n ∧ VRs μ h ((e.drop sub).take n) vs ∧ (∀ v ∈ vs, v.oneCell' = true) ∧
      ∀ j v, vs[j]? = some v → w.cell? ⟨blk, o + (idx * sz + sub) + j, none⟩ = some v := by
  induction n with
  | zero => exact ⟨[], rfl, by simp [VRs], by simp, by simp⟩
  | succ n ih =>
    obtain ⟨vs, hl, hr, h1, hc⟩ := ih (by omega)
    have hlt : sub + n < e.length := by omega
    obtain ⟨blk', o', cap', v, hm', hcell, hone, hv⟩ := cell_at R ho he (List.getElem?_eq_getElem hlt)
    rw [hm] at hm'
    obtain ⟨rfl, rfl, rfl⟩ : blk = blk' ∧ o = o' ∧ cap = cap' := by injection hm' with a b c; exact ⟨a, b, c⟩
    refine ⟨vs ++ [v], by simp [hl], ?_, ?_, ?_⟩
    · have : (e.drop sub).take (n + 1) = (e.drop sub).take n ++ [e[sub + n]] := by
        rw [List.take_add_one, List.getElem?_drop, List.getElem?_eq_getElem hlt]; rfl
      rw [this]
      exact VRs.append hr (by simp only [VRs]; exact ⟨v, [], rfl, hv, rfl⟩)
    · intro x hx
      rcases List.mem_append.1 hx with hx | hx
      · exact h1 x hx
      · simp at hx; subst hx; exact hone
    · intro j x hx
      rcases Nat.lt_or_ge j vs.length with hj | hj
      · rw [List.getElem?_append_left hj] at hx; exact hc j x hx
      · rw [List.getElem?_append_right hj] at hx
        have : j - vs.length = 0 := by
          rcases Nat.eq_zero_or_pos (j - vs.length) with h0 | h0
          · exact h0
          · rw [List.getElem?_eq_none (by simp; omega)] at hx; simp at hx
        rw [this] at hx
        simp at hx
        subst hx
        have ej : j = n := by omega
        subst ej
        rw [← hcell]
        congr 2
        omega

/-- A load from what nobody writes. -/
theorem ldE_sound (R : Rel μ h w) {n sub : Nat} {ty : TypeId} {e : List AV} {a : AV} {v : Value} (hv : VR μ h (.ep e sub) v) (hs : szOf P ty = some n)
    (hb : pickC n (aggT P ty) e sub = some a) : ∃ v', (Instr.loadAt ty v).run P w = .ok v' w ∧ VR μ h a v' := by
  simp only [VR] at hv
  obtain ⟨blk, o, vs, rfl, hi, hvs, hc⟩ := hv
  have hvs' := hvs.lift h
  have hw : ∀ j u, vs[j]? = some u → w.cell? ⟨blk, o + j, none⟩ = some u := fun j u hu => (cell_same (R.imm _ hi).2.1 _).trans (hc j u hu).1
  have hagg := run_isAgg' hs w
  have hsz := run_sizeOf' hs w
  unfold pickC at hb
  cases hag : aggT P ty with
  | true =>
    simp only [hag, if_true] at hb
    split at hb <;> try (simp at hb; done)
    rename_i hle
    simp only [Option.some.injEq] at hb
    subst hb
    have hle' : sub + n ≤ vs.length := by rw [← hvs.length]; exact hle
    refine ⟨.agg ((vs.drop sub).take n).toArray, ?_, by simp only [VR]; exact ⟨_, rfl, VRs.take n (VRs.drop sub hvs')⟩⟩
    have hld := run_loadCells_list (P := P) w ⟨blk, o + sub, none⟩ ((vs.drop sub).take n) (fun j x hx => by
      rw [Addr.add_mid]
      rw [List.getElem?_take] at hx
      split at hx <;> try (simp at hx; done)
      rw [List.getElem?_drop] at hx
      have := hw _ _ hx
      rw [← this]
      congr 2
      omega)
    rw [show ((vs.drop sub).take n).length = n by simp; omega] at hld
    simp [Instr.loadAt, Instr.sureAddr, loadVar, Sem.run_bind, hagg, hag, hsz, hld]
  | false =>
    simp only [hag, Bool.false_eq_true, if_false] at hb
    obtain ⟨u, hu, hr⟩ := VRs.get hvs' sub a hb
    refine ⟨u, ?_, hr⟩
    simp [Instr.loadAt, Instr.sureAddr, loadVar, Sem.run_bind, hagg, hag, load, Sem.run, hw _ _ hu]
theorem ld_sound (R : Rel μ h w) {n : Nat} {ty : TypeId} {p a : AV} {v : Value} (hv : VR μ h p v) (hs : szOf P ty = some n)
    (hk : ldK n (aggT P ty) p h some = some a) : ∃ v', (Instr.loadAt ty v).run P w = .ok v' w ∧ VR μ h a v' := by
  unfold ldK at hk
  split at hk <;> try (simp at hk; done)
  case h_2 e sub =>
    split at hk <;> try (simp at hk; done)
    rename_i b hb
    simp only [Option.some.injEq] at hk
    subst hk
    exact ldE_sound R hv hs hb
  rename_i id idx sub fr
  split at hk <;> try (simp at hk; done)
  rename_i sz es own nil ho
  split at hk <;> try (simp at hk; done)
  rename_i hfr
  split at hk <;> try (simp at hk; done)
  rename_i e he
  split at hk <;> try (simp at hk; done)
  rename_i b hb
  simp only [Option.some.injEq] at hk
  subst hk
  simp only [VR] at hv
  obtain ⟨ad, rfl, sz', es', own', nil', ho', _, hc⟩ := hv
  rw [ho] at ho'
  obtain ⟨rfl, rfl, rfl, rfl⟩ : sz = sz' ∧ es = es' ∧ own = own' ∧ nil = nil' := by injection ho' with q; injection q with a b c d; exact ⟨a, b, c, d⟩
  obtain ⟨blk, o, cap, hm, rfl⟩ := hc hfr.symm
  have hagg := run_isAgg' hs w
  have hsz := run_sizeOf' hs w
  unfold pickC at hb
  cases hag : aggT P ty with
  | true =>
    simp only [hag, if_true] at hb
    split at hb <;> try (simp at hb; done)
    rename_i hle
    simp only [Option.some.injEq] at hb
    subst hb
    obtain ⟨vs, hl, hr, _, hcell⟩ := cells_at R ho he hm sub n hle
    refine ⟨.agg vs.toArray, ?_, by simp only [VR]; exact ⟨_, rfl, by simpa using hr⟩⟩
    have hld := run_loadCells_list (P := P) w ⟨blk, o + (idx * sz + sub), none⟩ vs (fun j x hx => by rw [Addr.add_mid]; exact hcell j x hx)
    rw [hl] at hld
    simp [Instr.loadAt, Instr.sureAddr, loadVar, Sem.run_bind, hagg, hag, hsz, hld]
  | false =>
    simp only [hag, Bool.false_eq_true, if_false] at hb
    obtain ⟨blk', o', cap', x, hm', hcell, hone, hx⟩ := cell_at R ho he hb
    rw [hm] at hm'
    obtain ⟨rfl, rfl, rfl⟩ : blk = blk' ∧ o = o' ∧ cap = cap' := by injection hm' with a b c; exact ⟨a, b, c⟩
    refine ⟨x, ?_, hx⟩
    simp [Instr.loadAt, Instr.sureAddr, loadVar, Sem.run_bind, hagg, hag, load, Sem.run, hcell]

theorem cells_one {v : Value} (h1 : v.oneCell' = true) : v.cells = #[v] := by cases v <;> simp_all [Value.cells, Value.oneCell']

theorem pureVal_bind {α β : Type} (f : α → Sem β) : ∀ s : Sem α, pureVal P (s.bind f) = (pureVal P s).bind fun a => pureVal P (f a) := by
  intro s
  induction s with
  | pure a => simp [Sem.bind, pureVal]
  | program k ih => simp only [Sem.bind, pureVal]; exact ih P
  | _ => simp [Sem.bind, pureVal]
theorem eqGuard_any (op : BinOp) (t : TypeId) (X Y : Operand) (a b : Value) (hn : a ≠ .nilIface) :
    Go.eqGuard op t X Y a b = Go.eqGuard op t (.tmp 0) (.tmp 0) a b := by
  unfold Go.eqGuard
  cases a <;> cases b <;> first | rfl | exact absurd rfl hn
theorem toV_no_nilIface {a : AV} {v : Value} (hv : toV a = some v) : v ≠ .nilIface := by
  rintro rfl
  cases a <;> simp only [toV] at hv <;> try (simp at hv; done)
  · split at hv
    · rename_i hg; simp only [Option.some.injEq] at hv; subst hv; simp [gv] at hg
    · simp at hv
/-- What a comparison or a reckoning runs to. -/
theorem bin_run {op : BinOp} {X Y : Operand} {ty : TypeId} {v v' u : Value} (hg : (Go.eqGuard op ty X Y v v').run P w = .ok () w) (hb : (Go.binOp op ty v v').run P w = .ok u w) :
    (do Go.eqGuard op ty X Y v v'; Go.binOp op ty v v' : Sem Value).run P w = .ok u w := by
  simp [Sem.run_bind, hg, hb]

section ops
variable {X Y : Operand} {ty : TypeId} {op : BinOp} {x y a : AV} {v v' : Value}
theorem arith_sound (hx : VR μ h x v) (hy : VR μ h y v') (hk : arithK op x y some = some a) :
    ∃ u, (do Go.eqGuard op ty X Y v v'; Go.binOp op ty v v' : Sem Value).run P w = .ok u w ∧ VR μ h a u := by
  unfold arithK at hk
  split at hk <;> try (simp at hk; done)
  simp only [VR] at hx hy
  obtain ⟨-, rfl⟩ := hx
  obtain ⟨-, rfl⟩ := hy
  split at hk <;> try (simp at hk; done)
  rename_i hab
  subst hab
  split at hk <;> first
    | (simp at hk; done)
    | (simp only [Option.some.injEq] at hk; subst hk; exact ⟨_, by simp [Go.eqGuard, Go.binOp, Op.intArith, Op.intCmp, Sem.run_bind]; rfl, by simp [VR, gv]⟩)
theorem reck_sound (hx : VR μ h x v) (hy : VR μ h y v') (hk : reckK P op ty x y some = some a) :
    ∃ u, (do Go.eqGuard op ty X Y v v'; Go.binOp op ty v v' : Sem Value).run P w = .ok u w ∧ VR μ h a u := by
  unfold reckK at hk
  split at hk <;> try (simp at hk; done)
  rename_i p q hp hq
  obtain rfl := VR.toV hx hp
  obtain rfl := VR.toV hy hq
  split at hk <;> try (simp at hk; done)
  rename_i u hu
  split at hk <;> try (simp at hk; done)
  rename_i b hb
  simp only [Option.some.injEq] at hk
  subst hk
  change pureVal P (Sem.bind _ _) = _ at hu
  rw [pureVal_bind] at hu
  obtain ⟨⟨⟩, h1, h2⟩ := Option.bind_eq_some_iff.1 hu
  exact ⟨u, bin_run (by rw [eqGuard_any _ _ _ _ _ _ (toV_no_nilIface hp)]; exact pureVal_run _ _ h1 w) (pureVal_run _ _ h2 w), VR.ofV1 hb⟩
theorem elemOf_under {t e : TypeId} (he : elemOf P t = some e) : P.underlying t = some (.slice e) := by
  unfold elemOf at he
  split at he
  · rename_i e' h1; simp at he; subst he; exact h1
  · simp at he
theorem eq_sound (R : Rel μ h w) {neq : Bool} (hx : VR μ h x v) (hy : VR μ h y v') (hk : eqK P neq ty x y h some = some a) :
    ∃ u, (do Go.eqGuard (if neq then .neq else .eql) ty X Y v v'; Go.binOp (if neq then .neq else .eql) ty v v' : Sem Value).run P w = .ok u w ∧ VR μ h a u := by
  unfold eqK at hk
  split at hk
  · simp only [VR] at hx hy
    obtain ⟨-, rfl⟩ := hx
    obtain ⟨-, rfl⟩ := hy
    split at hk <;> try (simp at hk; done)
    rename_i hab
    subst hab
    simp only [Option.some.injEq] at hk
    subst hk
    rename_i m n
    cases neq
    · exact ⟨.bool (m == n), by simp [Go.eqGuard, Go.binOp, Op.intCmp, Sem.run_bind], by simp [VR, gv]⟩
    · exact ⟨.bool (m != n), by simp [Go.eqGuard, Go.binOp, Op.intCmp, Sem.run_bind], by simp [VR, gv, bne]⟩
  · simp only [VR] at hx hy
    obtain ⟨-, rfl⟩ := hx
    obtain ⟨-, rfl⟩ := hy
    split at hk <;> try (simp at hk; done)
    rename_i m n _ hu
    simp only [Option.some.injEq] at hk
    subst hk
    have heq : (Op.equal ty (.bool m) (.bool n)).run P w = .ok (m == n) w := by
      unfold Op.equal Op.maxDepth
      rw [Op.equalIn, Sem.run_bind, run_underlying hu, Result.andThen_ok]
      rfl
    cases neq
    · exact ⟨.bool (m == n), by simp [Go.eqGuard, Go.binOp, Sem.run_bind, heq], by simp [VR, gv]⟩
    · exact ⟨.bool (!(m == n)), by simp [Go.eqGuard, Go.binOp, Sem.run_bind, heq], by simp [VR, gv]⟩
  · simp only [VR] at hx hy
    obtain ⟨-, rfl⟩ := hy
    split at hk <;> try (simp at hk; done)
    rename_i e _ es _ nil he ho
    split at hk <;> try (simp at hk; done)
    rename_i hfr
    simp only [Option.some.injEq] at hk
    subst hk
    obtain ⟨A, c, rfl, -, -, -, es', own', nil', ho', -, hc⟩ := hx
    rw [ho] at ho'
    injection ho' with ho'
    injection ho' with e1 e2 e3 e4
    subst e1 e2 e3 e4
    have hO := (R.obj _ _ ho).2
    have hn : A.isNone = nil := by
      have := hc hfr.symm
      revert this hO
      cases μ _ with
      | real b o c' => rintro ⟨h1, _⟩ ⟨a', rfl, _⟩; simp [h1]
      | virt A' => rintro ⟨h1, h2, _⟩ ⟨rfl, _⟩; exact h2.symm
    have hu := elemOf_under he
    have heq : ∀ L n' c', (Op.equal ty (.slice A L c) (.slice none n' c')).run P w = .ok A.isNone w := by
      intro L n' c'
      unfold Op.equal Op.maxDepth
      rw [Op.equalIn, Sem.run_bind, run_underlying hu, Result.andThen_ok]
      cases A <;> rfl
    cases neq
    · exact ⟨.bool nil, by simp [Go.eqGuard, Go.binOp, Sem.run_bind, heq, hn], by simp [VR, gv]⟩
    · exact ⟨.bool !nil, by simp [Go.eqGuard, Go.binOp, Sem.run_bind, heq, hn], by simp [VR, gv]⟩
  · simp only [VR] at hx hy
    obtain ⟨-, rfl⟩ := hy
    split at hk <;> try (simp at hk; done)
    rename_i nl _ _ _ _ e he
    simp only [Option.some.injEq] at hk
    subst hk
    obtain ⟨A, c, rfl, -, -, hn, -⟩ := hx
    have hu := elemOf_under he
    have heq : ∀ L n' c', (Op.equal ty (.slice A L c) (.slice none n' c')).run P w = .ok A.isNone w := by
      intro L n' c'
      unfold Op.equal Op.maxDepth
      rw [Op.equalIn, Sem.run_bind, run_underlying hu, Result.andThen_ok]
      cases A <;> rfl
    cases neq
    · exact ⟨.bool nl, by simp [Go.eqGuard, Go.binOp, Sem.run_bind, heq, ← hn], by simp [VR, gv]⟩
    · exact ⟨.bool !nl, by simp [Go.eqGuard, Go.binOp, Sem.run_bind, heq, ← hn], by simp [VR, gv]⟩
  · exact reck_sound hx hy hk
theorem bin_sound (R : Rel μ h w) (hx : VR μ h x v) (hy : VR μ h y v') (hk : binK P op ty x y h some = some a) :
    ∃ u, (do Go.eqGuard op ty X Y v v'; Go.binOp op ty v v' : Sem Value).run P w = .ok u w ∧ VR μ h a u := by
  unfold binK at hk
  split at hk <;> first
    | exact arith_sound hx hy hk
    | exact eq_sound (neq := false) R hx hy hk
    | exact eq_sound (neq := true) R hx hy hk
    | exact reck_sound hx hy hk
end ops
theorem un_sound {op : UnOp} {x a : AV} {v : Value} (hx : VR μ h x v) (hk : unK P op x some = some a) : ∃ u, (Op.unary op v).run P w = .ok u w ∧ VR μ h a u := by
  unfold unK at hk
  split at hk
  · unfold notK at hk
    split at hk <;> try (simp at hk; done)
    simp only [Option.some.injEq] at hk
    subst hk
    simp only [VR] at hx
    obtain ⟨-, rfl⟩ := hx
    exact ⟨_, rfl, by simp [VR, gv]⟩
  · split at hk <;> try (simp at hk; done)
    rename_i p hp
    obtain rfl := VR.toV hx hp
    split at hk <;> try (simp at hk; done)
    rename_i u hu
    split at hk <;> try (simp at hk; done)
    rename_i b hb
    simp only [Option.some.injEq] at hk
    subst hk
    exact ⟨u, pureVal_run _ _ hu w, VR.ofV1 hb⟩
theorem conv_sound {s d : TypeId} {x a : AV} {v : Value} (hx : VR μ h x v) (hk : convK P s d x some = some a) : ∃ u, (Go.convert s d v).run P w = .ok u w ∧ VR μ h a u := by
  unfold convK at hk
  split at hk <;> try (simp at hk; done)
  rename_i p hp
  obtain rfl := VR.toV hx hp
  split at hk <;> try (simp at hk; done)
  rename_i u hu
  split at hk <;> try (simp at hk; done)
  rename_i b hb
  simp only [Option.some.injEq] at hk
  subst hk
  exact ⟨u, pureVal_run _ _ hu w, VR.ofV1 hb⟩
theorem ex_sound {x a : AV} {v : Value} {i : Nat} (hx : VR μ h x v) (hk : exK x i some = some a) : ∃ u, (Instr.extract v i).run P w = .ok u w ∧ VR μ h a u := by
  unfold exK at hk
  split at hk <;> try (simp at hk; done)
  split at hk <;> try (simp at hk; done)
  rename_i vs b hb
  simp only [Option.some.injEq] at hk
  subst hk
  simp only [VR] at hx
  obtain ⟨us, rfl, hr⟩ := hx
  obtain ⟨u, hu, hv⟩ := VRs.get hr i _ hb
  exact ⟨u, by simp [Instr.extract, Array.getElem?_toList ▸ hu], hv⟩
theorem min_sound {x y a : AV} {v v' : Value} {tys : Array TypeId} {ty : TypeId} (hx : VR μ h x v) (hy : VR μ h y v') (hk : minK x y some = some a) :
    ∃ u, (Builtin.min_ tys ty #[v, v']).run P w = .ok u w ∧ VR μ h a u := by
  unfold minK at hk
  split at hk <;> try (simp at hk; done)
  simp only [VR] at hx hy
  obtain ⟨-, rfl⟩ := hx
  obtain ⟨-, rfl⟩ := hy
  split at hk <;> try (simp at hk; done)
  simp only [Option.some.injEq] at hk
  subst hk
  exact ⟨_, by simp [Builtin.min_, Builtin.min2]; rfl, by simp [VR, gv]⟩
theorem max_sound {x y a : AV} {v v' : Value} {tys : Array TypeId} {ty : TypeId} (hx : VR μ h x v) (hy : VR μ h y v') (hk : maxK x y some = some a) :
    ∃ u, (Builtin.max_ tys ty #[v, v']).run P w = .ok u w ∧ VR μ h a u := by
  unfold maxK at hk
  split at hk <;> try (simp at hk; done)
  simp only [VR] at hx hy
  obtain ⟨-, rfl⟩ := hx
  obtain ⟨-, rfl⟩ := hy
  split at hk <;> try (simp at hk; done)
  simp only [Option.some.injEq] at hk
  subst hk
  exact ⟨_, by simp [Builtin.max_, Builtin.max2]; rfl, by simp [VR, gv]⟩
theorem len_sound {x a : AV} {v : Value} {t e ty : TypeId} (hu : P.underlying t = some (.slice e)) (hx : VR μ h x v) (hk : lenK x some = some a) :
    ∃ u, (Builtin.len_ #[t] ty #[v]).run P w = .ok u w ∧ VR μ h a u := by
  unfold lenK at hk
  split at hk <;> try (simp at hk; done)
  · simp only [Option.some.injEq] at hk
    subst hk
    simp only [VR] at hx
    obtain ⟨A, c, rfl, -⟩ := hx
    exact ⟨_, by simp [Builtin.len_, Sem.run_bind, run_underlying hu, goInt]; rfl, by simp [VR, gv]⟩
  · simp only [Option.some.injEq] at hk
    subst hk
    simp only [VR] at hx
    obtain ⟨A, c, rfl, -⟩ := hx
    exact ⟨_, by simp [Builtin.len_, Sem.run_bind, run_underlying hu, goInt]; rfl, by simp [VR, gv]⟩
  · simp only [Option.some.injEq] at hk
    subst hk
    simp only [VR] at hx
    obtain ⟨-, rfl⟩ := hx
    exact ⟨_, by simp [Builtin.len_, Sem.run_bind, run_underlying hu, goInt]; rfl, by simp [VR, gv]⟩
end Go.AM
