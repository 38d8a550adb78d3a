import Derived.Test.YtoamikbdfedngaaG3
/- Functions that write into one object of their caller's: as entries of the table for drawn regions. -/
namespace Go.AM
open Go.RowKit
set_option linter.unusedVariables false
set_option linter.unusedSimpArgs false
set_option linter.constructorNameAsVariable false
variable {P : Program} {μ μ' : Mu} {h h' h1 : Hp} {w w' : World}
/-- The same objects, but for cells of numbers. -/
def Near (h h1 : Hp) : Prop := h1.length = h.length ∧ ∀ (id : Nat) (o : AObj), h[id]? = some o → h1[id]? = some o ∨ ∃ sz es es' own nil, o = .arr sz es own nil ∧ h1[id]? = some (.arr sz es' own nil) ∧ es'.length = es.length ∧ ∀ e ∈ es', ∀ c ∈ e, plain c = true
theorem Near.back (n : Near h h1) {id : Nat} {o : AObj} (ho : h1[id]? = some o) : h[id]? = some o ∨ ∃ sz es es' own nil, o = .arr sz es' own nil ∧ h[id]? = some (.arr sz es own nil) ∧ es'.length = es.length ∧ ∀ e ∈ es', ∀ c ∈ e, plain c = true := by
  have hl : id < h.length := by rw [← n.1]; exact (List.getElem?_eq_some_iff.1 ho).1
  have hh : h[id]? = some h[id] := List.getElem?_eq_getElem hl
  rcases n.2 id _ hh with h2 | ⟨sz, es, es', own, nil, h2, h3, h4, h5⟩
  · left
    rw [h2] at ho
    rw [hh]; exact ho
  · right
    rw [h3] at ho
    injection ho with ho
    exact ⟨sz, es, es', own, nil, ho.symm, by rw [hh, h2], h4, h5⟩
theorem Step.forget2 {g : List AObj} (R : Rel μ h w) (n : Near h h1) (S : Step μ h w μ' (h1 ++ g) w') : Step μ h w (μ.mix μ') h1 w' ∧ Ext (μ.mix μ') h1 μ' (h1 ++ g) := by
  have hin : ∀ i o, h1[i]? = some o → (h1 ++ g)[i]? = some o := fun i o hi => by
    rw [List.getElem?_append_left (List.getElem?_eq_some_iff.1 hi).1]; exact hi
  have hloc : ∀ (id : Nat) (o : AObj), h[id]? = some o → o ≠ .dead → μ' id = μ id := by
    intro id o ho hd
    have := S.evo.obj id o ho
    cases o with
    | dead => exact absurd rfl hd
    | map kvs => obtain ⟨_, _, h2⟩ := this; exact h2
    | arr sz es own nil =>
      obtain ⟨es', nil', q1, q2, q3⟩ := this
      rcases n.2 id _ ho with h2 | ⟨sz2, es2, es3, own2, nil2, h2, h3, h4, h5⟩
      · rw [hin _ _ h2] at q1
        injection q1 with q1
        injection q1 with e1 e2 e3 e4
        exact q3 (by rw [e2])
      · rw [hin _ _ h3] at q1
        injection q1 with q1
        injection q1 with e1 e2 e3 e4
        injection h2 with f1 f2 f3 f4
        exact q3 (by rw [← e2, h4, f2])
  have hloc1 : ∀ (id : Nat) (o : AObj), h1[id]? = some o → o ≠ .dead → μ' id = μ id := by
    intro id o ho hd
    rcases n.back ho with h2 | ⟨sz, es, es', own, nil, h2, h3, h4, h5⟩
    · exact hloc id o h2 hd
    · exact hloc id _ h3 (by simp)
  have he : Ext (μ.mix μ') h1 μ' (h1 ++ g) := ⟨fun k hk => ⟨hk, rfl⟩, fun id o ho => ⟨hin _ _ ho, fun hd => hloc1 id o ho hd⟩⟩
  have hE : Evo μ h (μ.mix μ') h1 := by
    refine ⟨S.evo.imm, fun id o ho => ?_⟩
    rcases n.2 id _ ho with h2 | ⟨sz2, es2, es3, own2, nil2, rfl, h3, h4, h5⟩
    · cases o with
      | dead => trivial
      | map kvs => exact ⟨kvs, h2, rfl⟩
      | arr sz es own nil => exact ⟨es, nil, h2, Nat.le_refl _, fun _ => rfl⟩
    · exact ⟨es3, nil2, h3, by omega, fun _ => rfl⟩
  have hmu : ∀ i o b x c, h1[i]? = some o → isOwn o = true → (μ.mix μ') i = .real b x c → μ' i = .real b x c := fun i o b x c p1 p2 p3 => by
    rw [hloc1 i o p1 (by rintro rfl; simp [isOwn] at p2)]; exact p3
  have hown : ∀ b, Own (μ.mix μ') h1 b → Own μ' (h1 ++ g) b := by
    rintro b ⟨id, o, x, c, p1, p2, p3⟩
    exact ⟨id, o, x, c, hin _ _ p1, p2, hmu _ _ _ _ _ p1 p2 p3⟩
  have hown0 : ∀ b, Own (μ.mix μ') h1 b → Own μ h b := by
    rintro b ⟨id, o, x, c, p1, p2, p3⟩
    rcases n.back p1 with h2 | ⟨sz, es, es', own, nil, rfl, h3, h4, h5⟩
    · exact ⟨id, o, x, c, h2, p2, p3⟩
    · exact ⟨id, _, x, c, h3, p2, p3⟩
  refine ⟨⟨⟨fun id o ho => ?_, ?_, ?_, ?_⟩, hE, S.frame, fun b hb => .inl (hown0 b hb), S.fresh⟩, he⟩
  · have H := S.rel.obj id o (hin _ _ ho)
    rcases n.back ho with h2 | ⟨sz, es, es', own, nil, rfl, h3, h4, h5⟩
    · exact ORel.back he ho (w := w) (ORel.mono hE rfl (fun _ _ _ _ => rfl) (Nat.le_refl _) (R.obj id o h2)) H
    · refine ⟨H.1, ?_⟩
      have H2 := H.2
      have hm : μ' id = (μ.mix μ') id := hloc1 id _ ho (by simp)
      rw [← hm]
      cases hmu2 : μ' id with
      | virt A => rw [hmu2] at H2; exact H2
      | real blk x c =>
        rw [hmu2] at H2
        obtain ⟨q1, q2, q3, q4, q5, q6⟩ := H2
        refine ⟨q1, q2, q3, q4, fun i e j a p q => ?_, q6⟩
        obtain ⟨v, r1, r2, r3⟩ := q5 i e j a p q
        exact ⟨v, r1, r2, plain_VR he.imm (h5 e (List.mem_of_getElem? p) a (List.mem_of_getElem? q)) r3⟩
  · intro i j o p b x c y d hi hj hoi hpj hmi hmj
    exact S.rel.sep i j o p b x c y d (hin _ _ hi) (hin _ _ hj) hoi hpj (hmu _ _ _ _ _ hi hoi hmi) (hmu _ _ _ _ _ hj hpj hmj)
  · intro i sz es nil b x c hi hmi hO
    rcases n.back hi with h2 | ⟨sz2, es2, es3, own2, nil2, h2, h3, h4, h5⟩
    · exact R.apart i sz es nil b x c h2 hmi (hown0 b hO)
    · injection h2 with f1 f2 f3 f4
      subst f1 f3 f4
      exact R.apart i _ es2 _ b x c h3 hmi (hown0 b hO)
  · intro k hk
    obtain ⟨p1, p2, p3⟩ := S.rel.imm k hk
    exact ⟨p1, p2, fun hO => p3 (hown k hO)⟩
/-- What a function writes into the object behind a pointer, whatever else there is. -/
def Writes (F : Fun) (id : Nat) (x : AV) (sz : Nat) (xs zs : List AV) : Prop :=
  (∀ c ∈ zs, plain c = true) ∧ ∀ H : Hp, H[id]? = some (.arr sz [xs] true false) → ∃ g, F [.ptr id 0 0 1, x] H = some (.tup [], H.set id (.arr sz [zs] true false) ++ g)
open Classical in
noncomputable def wrD (F : Fun) : DFun := fun args h base => match args with
  | [.ptr id 0 0 1, x] => match h[id]? with
    | some (.arr sz [xs] true false) => if hx : ∃ zs, Writes F id x sz xs zs then some (.tup [], ⟨[(id, .arr sz [hx.choose] true false)], [], [id]⟩) else none
    | _ => none
  | _ => none
theorem Writes.unique {F : Fun} {id : Nat} {x : AV} {sz : Nat} {xs zs ys : List AV} {h : Hp} (hid : h[id]? = some (.arr sz [xs] true false)) (h1 : Writes F id x sz xs zs) (h2 : Writes F id x sz xs ys) : zs = ys := by
  obtain ⟨g1, e1⟩ := h1.2 h hid
  obtain ⟨g2, e2⟩ := h2.2 h hid
  rw [e1] at e2
  injection e2 with e2
  injection e2 with _ e2
  have hl := (List.getElem?_eq_some_iff.1 hid).1
  have := congrArg (fun l : Hp => l[id]?) e2
  rw [List.getElem?_append_left (by simpa using hl), List.getElem?_append_left (by simpa using hl), List.getElem?_set_self hl, List.getElem?_set_self hl] at this
  injection this with this
  injection this with _ this
  injection this
theorem wrD_val {F : Fun} {id : Nat} {x : AV} {sz : Nat} {xs zs : List AV} {h : Hp} (hid : h[id]? = some (.arr sz [xs] true false)) (hw : Writes F id x sz xs zs) (base : Nat) : wrD F [.ptr id 0 0 1, x] h base = some (.tup [], ⟨[(id, .arr sz [zs] true false)], [], [id]⟩) := by
  have hx : ∃ zs, Writes F id x sz xs zs := ⟨zs, hw⟩
  simp only [wrD, hid]
  rw [dif_pos hx, Writes.unique hid hx.choose_spec hw]
theorem wrD_inv {F : Fun} {args : List AV} {h : Hp} {base : Nat} {v : AV} {e : Eff} (hk : wrD F args h base = some (v, e)) : ∃ id x sz xs zs, args = [.ptr id 0 0 1, x] ∧ h[id]? = some (.arr sz [xs] true false) ∧ Writes F id x sz xs zs ∧ v = .tup [] ∧ e = ⟨[(id, .arr sz [zs] true false)], [], [id]⟩ := by
  unfold wrD at hk
  split at hk <;> try (simp at hk; done)
  rename_i id x
  split at hk <;> try (simp at hk; done)
  rename_i sz xs hid
  split at hk <;> try (simp at hk; done)
  rename_i hx
  simp only [Option.some.injEq, Prod.mk.injEq] at hk
  exact ⟨id, x, sz, xs, hx.choose, rfl, hid, hx.choose_spec, hk.1.symm, hk.2.symm⟩
theorem wrD_loc (F : Fun) : DLoc (wrD F) := by
  refine ⟨fun args h base v e hk H hag => ?_, fun args h base v e hk p hp => ?_⟩
  · obtain ⟨id, x, sz, xs, zs, rfl, hid, hw, rfl, rfl⟩ := wrD_inv hk
    exact wrD_val (hag id (by simp) _ hid) hw base
  · obtain ⟨id, x, sz, xs, zs, rfl, hid, hw, rfl, rfl⟩ := wrD_inv hk
    simp only [List.mem_singleton] at hp
    subst hp
    exact ⟨_, hid, by simp⟩
theorem wrD_calls {F : Fun} {f : FuncId} (hc : CSound P f F) : DCalls P f (wrD F) := by
  intro args h base v e hk hd μ w cargs R hargs
  obtain ⟨id, x, sz, xs, zs, rfl, hid, hw, rfl, rfl⟩ := wrD_inv hk
  obtain ⟨g, hg⟩ := hw.2 h hid
  obtain ⟨hgo, hcall⟩ := hc _ _ _ _ hg μ w cargs R hargs
  refine ⟨hgo, Calls.mono hcall ?_⟩
  rintro en w' ⟨cv, μ', rfl, hst, hv⟩
  have hl := (List.getElem?_eq_some_iff.1 hid).1
  have hn : Near h (h.set id (.arr sz [zs] true false)) := by
    refine ⟨by simp, fun j o ho => ?_⟩
    by_cases hj : id = j
    · subst hj
      rw [hid] at ho
      injection ho with ho
      subst ho
      right
      refine ⟨sz, [xs], [zs], true, false, rfl, by rw [List.getElem?_set_self hl], rfl, ?_⟩
      intro e he c hc
      simp only [List.mem_singleton] at he
      subst he
      exact hw.1 c hc
    · left
      rw [List.getElem?_set_ne hj]
      exact ho
  obtain ⟨h1, h2⟩ := Step.forget2 R hn hst
  exact ⟨cv, _, rfl, by simpa [apAt] using h1, plain_VR h2.imm rfl hv⟩
theorem DSound.wr {D : DTab} (DS : DSound P D) {f : Nat} {F : Fun} (hc : CSound P f F) : DSound P (updD D f (wrD F)) := DS.upd (wrD_loc F) (wrD_calls hc)
end Go.AM

namespace Go.AM
open Go.Proofs
set_option linter.unusedVariables false
set_option maxRecDepth 100000
theorem mixed : Try.prog.follows .mixedOrders = true := by kernel_rfl
theorem NN_ex : ∃ n : Nat, 1000000 ≤ n ∧ n < 4611686018427387904 := ⟨1000000, by omega, by omega⟩
noncomputable def NN : Nat := NN_ex.choose
theorem NN_ge : 1000000 ≤ NN := NN_ex.choose_spec.1
theorem NN_lt : NN < 4611686018427387904 := NN_ex.choose_spec.2
/-! spile/journey.in -/
noncomputable def t_journey_in : Tab := T0
theorem t_journey_in_ok : TSound Try.prog t_journey_in := TSound.zero
noncomputable def d_journey_in : DTab := D0
theorem d_journey_in_ok : DSound Try.prog d_journey_in := DSound.zero
noncomputable def R_journey_in : Fun := runF Try.prog t_journey_in d_journey_in NN [0, 1, 2, 6] Try.f31 3
theorem R_journey_in_ok : CSound Try.prog 31 R_journey_in := run_sound t_journey_in_ok d_journey_in_ok mixed Try.func31 (by kernel_rfl) NN
theorem R_journey_in_eq {β : Type} (K : AV → Hp → Option β) (a0 : AV) (a1 : AV) (a2 : AV) (h : Hp) : (R_journey_in [a0, a1, a2] h).bind (fun p => K p.1 p.2) = f_journey_in Try.prog t_journey_in d_journey_in NN K a0 a1 a2 h := by
  rw [← f_journey_in_run]; exact runF_bind rfl
noncomputable def F_journey_in : Fun := closedX [.o, .o, .o] [.o] R_journey_in
theorem F_journey_in_ok : CSound Try.prog 31 F_journey_in := closedX_sound _ _ R_journey_in_ok
noncomputable def G_journey_in : DFun := closedXD [.o, .o, .o] [.o] R_journey_in
theorem G_journey_in_ro : Ro F_journey_in G_journey_in := closedX_ro _ _ _
theorem F_journey_in_run {a0 : AV} {a1 : AV} {a2 : AV} {v : AV} (ha : plains [a0, a1, a2] = true) (hv : f_journey_in Try.prog t_journey_in d_journey_in NN (fun v g => cvt false g v) a0 a1 a2 [] = some v) (h : Hp) : F_journey_in [a0, a1, a2] h = some (v, h) := by
  have e : (R_journey_in (nrms [.o, .o, .o] [a0, a1, a2]) []).bind (fun (p : AV × Hp) => cvt false p.2 p.1) = some v := (R_journey_in_eq (fun v g => cvt false g v) a0 a1 a2 []).trans hv
  exact (closedX_bind (shr := [.o]) ha e h).trans (congrArg (fun x => some (x, h)) (nrmR_rep 1 v))
theorem F_journey_in_own {a0 : AV} {a1 : AV} {a2 : AV} {x0 : AV} {x1 : AV} {x2 : AV} {h : Hp} {v : AV} (ha : cvts false h [x0, x1, x2] = some [a0, a1, a2]) (hv : ∀ st, f_journey_in Try.prog t_journey_in d_journey_in NN (fun v g => cvt st g v) a0 a1 a2 [] = some v) : F_journey_in [x0, x1, x2] h = some (v, h) := by
  have e : ∀ st, (R_journey_in (nrms [.o, .o, .o] [a0, a1, a2]) []).bind (fun (p : AV × Hp) => cvt st p.2 p.1) = some v := fun st => (R_journey_in_eq (fun v g => cvt st g v) a0 a1 a2 []).trans (hv st)
  exact (closedX_ownB (shr := [.o]) ha e).trans (congrArg (fun x => some (x, h)) (nrmR_rep 1 v))
/-! spile/journey.table$1 -/
noncomputable def t_journey_table_1 : Tab := T0
theorem t_journey_table_1_ok : TSound Try.prog t_journey_table_1 := TSound.zero
noncomputable def d_journey_table_1 : DTab := D0
theorem d_journey_table_1_ok : DSound Try.prog d_journey_table_1 := DSound.zero
noncomputable def R_journey_table_1 : Fun := runF Try.prog t_journey_table_1 d_journey_table_1 NN [0, 2] Try.f51 1
theorem R_journey_table_1_ok : CSound Try.prog 51 R_journey_table_1 := run_sound t_journey_table_1_ok d_journey_table_1_ok mixed Try.func51 (by kernel_rfl) NN
theorem R_journey_table_1_eq {β : Type} (K : AV → Hp → Option β) (a0 : AV) (h : Hp) : (R_journey_table_1 [a0] h).bind (fun p => K p.1 p.2) = f_journey_table_1 Try.prog t_journey_table_1 d_journey_table_1 NN K a0 h := by
  rw [← f_journey_table_1_run]; exact runF_bind rfl
noncomputable def F_journey_table_1 : Fun := closedX [.o] [.o] R_journey_table_1
theorem F_journey_table_1_ok : CSound Try.prog 51 F_journey_table_1 := closedX_sound _ _ R_journey_table_1_ok
noncomputable def G_journey_table_1 : DFun := closedXD [.o] [.o] R_journey_table_1
theorem G_journey_table_1_ro : Ro F_journey_table_1 G_journey_table_1 := closedX_ro _ _ _
theorem F_journey_table_1_run {a0 : AV} {v : AV} (ha : plains [a0] = true) (hv : f_journey_table_1 Try.prog t_journey_table_1 d_journey_table_1 NN (fun v g => cvt false g v) a0 [] = some v) (h : Hp) : F_journey_table_1 [a0] h = some (v, h) := by
  have e : (R_journey_table_1 (nrms [.o] [a0]) []).bind (fun (p : AV × Hp) => cvt false p.2 p.1) = some v := (R_journey_table_1_eq (fun v g => cvt false g v) a0 []).trans hv
  exact (closedX_bind (shr := [.o]) ha e h).trans (congrArg (fun x => some (x, h)) (nrmR_rep 1 v))
theorem F_journey_table_1_own {a0 : AV} {x0 : AV} {h : Hp} {v : AV} (ha : cvts false h [x0] = some [a0]) (hv : ∀ st, f_journey_table_1 Try.prog t_journey_table_1 d_journey_table_1 NN (fun v g => cvt st g v) a0 [] = some v) : F_journey_table_1 [x0] h = some (v, h) := by
  have e : ∀ st, (R_journey_table_1 (nrms [.o] [a0]) []).bind (fun (p : AV × Hp) => cvt st p.2 p.1) = some v := fun st => (R_journey_table_1_eq (fun v g => cvt st g v) a0 []).trans (hv st)
  exact (closedX_ownB (shr := [.o]) ha e).trans (congrArg (fun x => some (x, h)) (nrmR_rep 1 v))
/-! spile/journey.table$2 -/
noncomputable def t_journey_table_2 : Tab := T0
theorem t_journey_table_2_ok : TSound Try.prog t_journey_table_2 := TSound.zero
noncomputable def d_journey_table_2 : DTab := D0
theorem d_journey_table_2_ok : DSound Try.prog d_journey_table_2 := DSound.zero
noncomputable def R_journey_table_2 : Fun := runF Try.prog t_journey_table_2 d_journey_table_2 NN [0, 1, 2] Try.f52 1
theorem R_journey_table_2_ok : CSound Try.prog 52 R_journey_table_2 := run_sound t_journey_table_2_ok d_journey_table_2_ok mixed Try.func52 (by kernel_rfl) NN
theorem R_journey_table_2_eq {β : Type} (K : AV → Hp → Option β) (a0 : AV) (h : Hp) : (R_journey_table_2 [a0] h).bind (fun p => K p.1 p.2) = f_journey_table_2 Try.prog t_journey_table_2 d_journey_table_2 NN K a0 h := by
  rw [← f_journey_table_2_run]; exact runF_bind rfl
noncomputable def F_journey_table_2 : Fun := closedX [.o] [.o] R_journey_table_2
theorem F_journey_table_2_ok : CSound Try.prog 52 F_journey_table_2 := closedX_sound _ _ R_journey_table_2_ok
noncomputable def G_journey_table_2 : DFun := closedXD [.o] [.o] R_journey_table_2
theorem G_journey_table_2_ro : Ro F_journey_table_2 G_journey_table_2 := closedX_ro _ _ _
theorem F_journey_table_2_run {a0 : AV} {v : AV} (ha : plains [a0] = true) (hv : f_journey_table_2 Try.prog t_journey_table_2 d_journey_table_2 NN (fun v g => cvt false g v) a0 [] = some v) (h : Hp) : F_journey_table_2 [a0] h = some (v, h) := by
  have e : (R_journey_table_2 (nrms [.o] [a0]) []).bind (fun (p : AV × Hp) => cvt false p.2 p.1) = some v := (R_journey_table_2_eq (fun v g => cvt false g v) a0 []).trans hv
  exact (closedX_bind (shr := [.o]) ha e h).trans (congrArg (fun x => some (x, h)) (nrmR_rep 1 v))
theorem F_journey_table_2_own {a0 : AV} {x0 : AV} {h : Hp} {v : AV} (ha : cvts false h [x0] = some [a0]) (hv : ∀ st, f_journey_table_2 Try.prog t_journey_table_2 d_journey_table_2 NN (fun v g => cvt st g v) a0 [] = some v) : F_journey_table_2 [x0] h = some (v, h) := by
  have e : ∀ st, (R_journey_table_2 (nrms [.o] [a0]) []).bind (fun (p : AV × Hp) => cvt st p.2 p.1) = some v := fun st => (R_journey_table_2_eq (fun v g => cvt st g v) a0 []).trans (hv st)
  exact (closedX_ownB (shr := [.o]) ha e).trans (congrArg (fun x => some (x, h)) (nrmR_rep 1 v))
/-! spile/journey.table$3 -/
noncomputable def t_journey_table_3 : Tab := (updF T0 31 F_journey_in)
theorem t_journey_table_3_ok : TSound Try.prog t_journey_table_3 := (TSound.upd TSound.zero F_journey_in_ok)
@[simp] theorem t_journey_table_3_31 : t_journey_table_3 31 = some F_journey_in := rfl
noncomputable def d_journey_table_3 : DTab := D0
theorem d_journey_table_3_ok : DSound Try.prog d_journey_table_3 := DSound.zero
noncomputable def R_journey_table_3 : Fun := runF Try.prog t_journey_table_3 d_journey_table_3 NN [0, 1, 2] Try.f53 1
theorem R_journey_table_3_ok : CSound Try.prog 53 R_journey_table_3 := run_sound t_journey_table_3_ok d_journey_table_3_ok mixed Try.func53 (by kernel_rfl) NN
theorem R_journey_table_3_eq {β : Type} (K : AV → Hp → Option β) (a0 : AV) (h : Hp) : (R_journey_table_3 [a0] h).bind (fun p => K p.1 p.2) = f_journey_table_3 Try.prog t_journey_table_3 d_journey_table_3 NN K a0 h := by
  rw [← f_journey_table_3_run]; exact runF_bind rfl
noncomputable def F_journey_table_3 : Fun := closedX [.o] [.o] R_journey_table_3
theorem F_journey_table_3_ok : CSound Try.prog 53 F_journey_table_3 := closedX_sound _ _ R_journey_table_3_ok
noncomputable def G_journey_table_3 : DFun := closedXD [.o] [.o] R_journey_table_3
theorem G_journey_table_3_ro : Ro F_journey_table_3 G_journey_table_3 := closedX_ro _ _ _
theorem F_journey_table_3_run {a0 : AV} {v : AV} (ha : plains [a0] = true) (hv : f_journey_table_3 Try.prog t_journey_table_3 d_journey_table_3 NN (fun v g => cvt false g v) a0 [] = some v) (h : Hp) : F_journey_table_3 [a0] h = some (v, h) := by
  have e : (R_journey_table_3 (nrms [.o] [a0]) []).bind (fun (p : AV × Hp) => cvt false p.2 p.1) = some v := (R_journey_table_3_eq (fun v g => cvt false g v) a0 []).trans hv
  exact (closedX_bind (shr := [.o]) ha e h).trans (congrArg (fun x => some (x, h)) (nrmR_rep 1 v))
theorem F_journey_table_3_own {a0 : AV} {x0 : AV} {h : Hp} {v : AV} (ha : cvts false h [x0] = some [a0]) (hv : ∀ st, f_journey_table_3 Try.prog t_journey_table_3 d_journey_table_3 NN (fun v g => cvt st g v) a0 [] = some v) : F_journey_table_3 [x0] h = some (v, h) := by
  have e : ∀ st, (R_journey_table_3 (nrms [.o] [a0]) []).bind (fun (p : AV × Hp) => cvt st p.2 p.1) = some v := fun st => (R_journey_table_3_eq (fun v g => cvt st g v) a0 []).trans (hv st)
  exact (closedX_ownB (shr := [.o]) ha e).trans (congrArg (fun x => some (x, h)) (nrmR_rep 1 v))
/-! spile/journey.node -/
noncomputable def t_journey_node : Tab := (updF T0 31 F_journey_in)
theorem t_journey_node_ok : TSound Try.prog t_journey_node := (TSound.upd TSound.zero F_journey_in_ok)
@[simp] theorem t_journey_node_31 : t_journey_node 31 = some F_journey_in := rfl
noncomputable def d_journey_node : DTab := D0
theorem d_journey_node_ok : DSound Try.prog d_journey_node := DSound.zero
noncomputable def R_journey_node : Fun := runF Try.prog t_journey_node d_journey_node NN [0, 2] Try.f55 1
theorem R_journey_node_ok : CSound Try.prog 55 R_journey_node := run_sound t_journey_node_ok d_journey_node_ok mixed Try.func55 (by kernel_rfl) NN
theorem R_journey_node_eq {β : Type} (K : AV → Hp → Option β) (a0 : AV) (h : Hp) : (R_journey_node [a0] h).bind (fun p => K p.1 p.2) = f_journey_node Try.prog t_journey_node d_journey_node NN K a0 h := by
  rw [← f_journey_node_run]; exact runF_bind rfl
noncomputable def F_journey_node : Fun := closedX [.o] [.o] R_journey_node
theorem F_journey_node_ok : CSound Try.prog 55 F_journey_node := closedX_sound _ _ R_journey_node_ok
noncomputable def G_journey_node : DFun := closedXD [.o] [.o] R_journey_node
theorem G_journey_node_ro : Ro F_journey_node G_journey_node := closedX_ro _ _ _
theorem F_journey_node_run {a0 : AV} {v : AV} (ha : plains [a0] = true) (hv : f_journey_node Try.prog t_journey_node d_journey_node NN (fun v g => cvt false g v) a0 [] = some v) (h : Hp) : F_journey_node [a0] h = some (v, h) := by
  have e : (R_journey_node (nrms [.o] [a0]) []).bind (fun (p : AV × Hp) => cvt false p.2 p.1) = some v := (R_journey_node_eq (fun v g => cvt false g v) a0 []).trans hv
  exact (closedX_bind (shr := [.o]) ha e h).trans (congrArg (fun x => some (x, h)) (nrmR_rep 1 v))
theorem F_journey_node_own {a0 : AV} {x0 : AV} {h : Hp} {v : AV} (ha : cvts false h [x0] = some [a0]) (hv : ∀ st, f_journey_node Try.prog t_journey_node d_journey_node NN (fun v g => cvt st g v) a0 [] = some v) : F_journey_node [x0] h = some (v, h) := by
  have e : ∀ st, (R_journey_node (nrms [.o] [a0]) []).bind (fun (p : AV × Hp) => cvt st p.2 p.1) = some v := fun st => (R_journey_node_eq (fun v g => cvt st g v) a0 []).trans (hv st)
  exact (closedX_ownB (shr := [.o]) ha e).trans (congrArg (fun x => some (x, h)) (nrmR_rep 1 v))
/-! spile/journey.table$4 -/
noncomputable def t_journey_table_4 : Tab := (updF (updF T0 31 F_journey_in) 55 F_journey_node)
theorem t_journey_table_4_ok : TSound Try.prog t_journey_table_4 := (TSound.upd (TSound.upd TSound.zero F_journey_in_ok) F_journey_node_ok)
@[simp] theorem t_journey_table_4_31 : t_journey_table_4 31 = some F_journey_in := rfl
@[simp] theorem t_journey_table_4_55 : t_journey_table_4 55 = some F_journey_node := rfl
noncomputable def d_journey_table_4 : DTab := D0
theorem d_journey_table_4_ok : DSound Try.prog d_journey_table_4 := DSound.zero
noncomputable def R_journey_table_4 : Fun := runF Try.prog t_journey_table_4 d_journey_table_4 NN [0, 1, 2] Try.f54 1
theorem R_journey_table_4_ok : CSound Try.prog 54 R_journey_table_4 := run_sound t_journey_table_4_ok d_journey_table_4_ok mixed Try.func54 (by kernel_rfl) NN
theorem R_journey_table_4_eq {β : Type} (K : AV → Hp → Option β) (a0 : AV) (h : Hp) : (R_journey_table_4 [a0] h).bind (fun p => K p.1 p.2) = f_journey_table_4 Try.prog t_journey_table_4 d_journey_table_4 NN K a0 h := by
  rw [← f_journey_table_4_run]; exact runF_bind rfl
noncomputable def F_journey_table_4 : Fun := closedX [.o] [.o] R_journey_table_4
theorem F_journey_table_4_ok : CSound Try.prog 54 F_journey_table_4 := closedX_sound _ _ R_journey_table_4_ok
noncomputable def G_journey_table_4 : DFun := closedXD [.o] [.o] R_journey_table_4
theorem G_journey_table_4_ro : Ro F_journey_table_4 G_journey_table_4 := closedX_ro _ _ _
theorem F_journey_table_4_run {a0 : AV} {v : AV} (ha : plains [a0] = true) (hv : f_journey_table_4 Try.prog t_journey_table_4 d_journey_table_4 NN (fun v g => cvt false g v) a0 [] = some v) (h : Hp) : F_journey_table_4 [a0] h = some (v, h) := by
  have e : (R_journey_table_4 (nrms [.o] [a0]) []).bind (fun (p : AV × Hp) => cvt false p.2 p.1) = some v := (R_journey_table_4_eq (fun v g => cvt false g v) a0 []).trans hv
  exact (closedX_bind (shr := [.o]) ha e h).trans (congrArg (fun x => some (x, h)) (nrmR_rep 1 v))
theorem F_journey_table_4_own {a0 : AV} {x0 : AV} {h : Hp} {v : AV} (ha : cvts false h [x0] = some [a0]) (hv : ∀ st, f_journey_table_4 Try.prog t_journey_table_4 d_journey_table_4 NN (fun v g => cvt st g v) a0 [] = some v) : F_journey_table_4 [x0] h = some (v, h) := by
  have e : ∀ st, (R_journey_table_4 (nrms [.o] [a0]) []).bind (fun (p : AV × Hp) => cvt st p.2 p.1) = some v := fun st => (R_journey_table_4_eq (fun v g => cvt st g v) a0 []).trans (hv st)
  exact (closedX_ownB (shr := [.o]) ha e).trans (congrArg (fun x => some (x, h)) (nrmR_rep 1 v))
/-! spile/journey.table$5 -/
noncomputable def t_journey_table_5 : Tab := T0
theorem t_journey_table_5_ok : TSound Try.prog t_journey_table_5 := TSound.zero
noncomputable def d_journey_table_5 : DTab := D0
theorem d_journey_table_5_ok : DSound Try.prog d_journey_table_5 := DSound.zero
noncomputable def R_journey_table_5 : Fun := runF Try.prog t_journey_table_5 d_journey_table_5 NN [0, 1, 3] Try.f56 2
theorem R_journey_table_5_ok : CSound Try.prog 56 R_journey_table_5 := run_sound t_journey_table_5_ok d_journey_table_5_ok mixed Try.func56 (by kernel_rfl) NN
theorem R_journey_table_5_eq {β : Type} (K : AV → Hp → Option β) (a0 : AV) (a1 : AV) (h : Hp) : (R_journey_table_5 [a0, a1] h).bind (fun p => K p.1 p.2) = f_journey_table_5 Try.prog t_journey_table_5 d_journey_table_5 NN K a0 a1 h := by
  rw [← f_journey_table_5_run]; exact runF_bind rfl
noncomputable def F_journey_table_5 : Fun := R_journey_table_5
theorem F_journey_table_5_ok : CSound Try.prog 56 F_journey_table_5 := R_journey_table_5_ok
noncomputable def G_journey_table_5 : DFun := wrD F_journey_table_5
theorem F_journey_table_5_raw (a0 : AV) (a1 : AV) (h : Hp) : F_journey_table_5 [a0, a1] h = f_journey_table_5 Try.prog t_journey_table_5 d_journey_table_5 NN (fun v h => some (v, h)) a0 a1 h := (bind_pair _).symm.trans (R_journey_table_5_eq (fun v h => some (v, h)) a0 a1 h)
/-! spile/journey.table$6 -/
noncomputable def t_journey_table_6 : Tab := (updF T0 55 F_journey_node)
theorem t_journey_table_6_ok : TSound Try.prog t_journey_table_6 := (TSound.upd TSound.zero F_journey_node_ok)
@[simp] theorem t_journey_table_6_55 : t_journey_table_6 55 = some F_journey_node := rfl
noncomputable def d_journey_table_6 : DTab := D0
theorem d_journey_table_6_ok : DSound Try.prog d_journey_table_6 := DSound.zero
noncomputable def R_journey_table_6 : Fun := runF Try.prog t_journey_table_6 d_journey_table_6 NN [0, 1, 2] Try.f57 1
theorem R_journey_table_6_ok : CSound Try.prog 57 R_journey_table_6 := run_sound t_journey_table_6_ok d_journey_table_6_ok mixed Try.func57 (by kernel_rfl) NN
theorem R_journey_table_6_eq {β : Type} (K : AV → Hp → Option β) (a0 : AV) (h : Hp) : (R_journey_table_6 [a0] h).bind (fun p => K p.1 p.2) = f_journey_table_6 Try.prog t_journey_table_6 d_journey_table_6 NN K a0 h := by
  rw [← f_journey_table_6_run]; exact runF_bind rfl
noncomputable def F_journey_table_6 : Fun := closedX [.o] [.o] R_journey_table_6
theorem F_journey_table_6_ok : CSound Try.prog 57 F_journey_table_6 := closedX_sound _ _ R_journey_table_6_ok
noncomputable def G_journey_table_6 : DFun := closedXD [.o] [.o] R_journey_table_6
theorem G_journey_table_6_ro : Ro F_journey_table_6 G_journey_table_6 := closedX_ro _ _ _
theorem F_journey_table_6_run {a0 : AV} {v : AV} (ha : plains [a0] = true) (hv : f_journey_table_6 Try.prog t_journey_table_6 d_journey_table_6 NN (fun v g => cvt false g v) a0 [] = some v) (h : Hp) : F_journey_table_6 [a0] h = some (v, h) := by
  have e : (R_journey_table_6 (nrms [.o] [a0]) []).bind (fun (p : AV × Hp) => cvt false p.2 p.1) = some v := (R_journey_table_6_eq (fun v g => cvt false g v) a0 []).trans hv
  exact (closedX_bind (shr := [.o]) ha e h).trans (congrArg (fun x => some (x, h)) (nrmR_rep 1 v))
theorem F_journey_table_6_own {a0 : AV} {x0 : AV} {h : Hp} {v : AV} (ha : cvts false h [x0] = some [a0]) (hv : ∀ st, f_journey_table_6 Try.prog t_journey_table_6 d_journey_table_6 NN (fun v g => cvt st g v) a0 [] = some v) : F_journey_table_6 [x0] h = some (v, h) := by
  have e : ∀ st, (R_journey_table_6 (nrms [.o] [a0]) []).bind (fun (p : AV × Hp) => cvt st p.2 p.1) = some v := fun st => (R_journey_table_6_eq (fun v g => cvt st g v) a0 []).trans (hv st)
  exact (closedX_ownB (shr := [.o]) ha e).trans (congrArg (fun x => some (x, h)) (nrmR_rep 1 v))
/-! spile/journey.table$7 -/
noncomputable def t_journey_table_7 : Tab := T0
theorem t_journey_table_7_ok : TSound Try.prog t_journey_table_7 := TSound.zero
noncomputable def d_journey_table_7 : DTab := D0
theorem d_journey_table_7_ok : DSound Try.prog d_journey_table_7 := DSound.zero
noncomputable def R_journey_table_7 : Fun := runF Try.prog t_journey_table_7 d_journey_table_7 NN [0, 1] Try.f58 2
theorem R_journey_table_7_ok : CSound Try.prog 58 R_journey_table_7 := run_sound t_journey_table_7_ok d_journey_table_7_ok mixed Try.func58 (by kernel_rfl) NN
theorem R_journey_table_7_eq {β : Type} (K : AV → Hp → Option β) (a0 : AV) (a1 : AV) (h : Hp) : (R_journey_table_7 [a0, a1] h).bind (fun p => K p.1 p.2) = f_journey_table_7 Try.prog t_journey_table_7 d_journey_table_7 NN K a0 a1 h := by
  rw [← f_journey_table_7_run]; exact runF_bind rfl
noncomputable def F_journey_table_7 : Fun := R_journey_table_7
theorem F_journey_table_7_ok : CSound Try.prog 58 F_journey_table_7 := R_journey_table_7_ok
noncomputable def G_journey_table_7 : DFun := wrD F_journey_table_7
theorem F_journey_table_7_raw (a0 : AV) (a1 : AV) (h : Hp) : F_journey_table_7 [a0, a1] h = f_journey_table_7 Try.prog t_journey_table_7 d_journey_table_7 NN (fun v h => some (v, h)) a0 a1 h := (bind_pair _).symm.trans (R_journey_table_7_eq (fun v h => some (v, h)) a0 a1 h)
/-! spile/journey.table$8 -/
noncomputable def t_journey_table_8 : Tab := T0
theorem t_journey_table_8_ok : TSound Try.prog t_journey_table_8 := TSound.zero
noncomputable def d_journey_table_8 : DTab := D0
theorem d_journey_table_8_ok : DSound Try.prog d_journey_table_8 := DSound.zero
noncomputable def R_journey_table_8 : Fun := runF Try.prog t_journey_table_8 d_journey_table_8 NN [0, 1, 2] Try.f59 1
theorem R_journey_table_8_ok : CSound Try.prog 59 R_journey_table_8 := run_sound t_journey_table_8_ok d_journey_table_8_ok mixed Try.func59 (by kernel_rfl) NN
theorem R_journey_table_8_eq {β : Type} (K : AV → Hp → Option β) (a0 : AV) (h : Hp) : (R_journey_table_8 [a0] h).bind (fun p => K p.1 p.2) = f_journey_table_8 Try.prog t_journey_table_8 d_journey_table_8 NN K a0 h := by
  rw [← f_journey_table_8_run]; exact runF_bind rfl
noncomputable def F_journey_table_8 : Fun := closedX [.o] [.o] R_journey_table_8
theorem F_journey_table_8_ok : CSound Try.prog 59 F_journey_table_8 := closedX_sound _ _ R_journey_table_8_ok
noncomputable def G_journey_table_8 : DFun := closedXD [.o] [.o] R_journey_table_8
theorem G_journey_table_8_ro : Ro F_journey_table_8 G_journey_table_8 := closedX_ro _ _ _
theorem F_journey_table_8_run {a0 : AV} {v : AV} (ha : plains [a0] = true) (hv : f_journey_table_8 Try.prog t_journey_table_8 d_journey_table_8 NN (fun v g => cvt false g v) a0 [] = some v) (h : Hp) : F_journey_table_8 [a0] h = some (v, h) := by
  have e : (R_journey_table_8 (nrms [.o] [a0]) []).bind (fun (p : AV × Hp) => cvt false p.2 p.1) = some v := (R_journey_table_8_eq (fun v g => cvt false g v) a0 []).trans hv
  exact (closedX_bind (shr := [.o]) ha e h).trans (congrArg (fun x => some (x, h)) (nrmR_rep 1 v))
theorem F_journey_table_8_own {a0 : AV} {x0 : AV} {h : Hp} {v : AV} (ha : cvts false h [x0] = some [a0]) (hv : ∀ st, f_journey_table_8 Try.prog t_journey_table_8 d_journey_table_8 NN (fun v g => cvt st g v) a0 [] = some v) : F_journey_table_8 [x0] h = some (v, h) := by
  have e : ∀ st, (R_journey_table_8 (nrms [.o] [a0]) []).bind (fun (p : AV × Hp) => cvt st p.2 p.1) = some v := fun st => (R_journey_table_8_eq (fun v g => cvt st g v) a0 []).trans (hv st)
  exact (closedX_ownB (shr := [.o]) ha e).trans (congrArg (fun x => some (x, h)) (nrmR_rep 1 v))
/-! spile/journey.table$9 -/
noncomputable def t_journey_table_9 : Tab := T0
theorem t_journey_table_9_ok : TSound Try.prog t_journey_table_9 := TSound.zero
noncomputable def d_journey_table_9 : DTab := D0
theorem d_journey_table_9_ok : DSound Try.prog d_journey_table_9 := DSound.zero
noncomputable def R_journey_table_9 : Fun := runF Try.prog t_journey_table_9 d_journey_table_9 NN [0, 1, 2] Try.f60 1
theorem R_journey_table_9_ok : CSound Try.prog 60 R_journey_table_9 := run_sound t_journey_table_9_ok d_journey_table_9_ok mixed Try.func60 (by kernel_rfl) NN
theorem R_journey_table_9_eq {β : Type} (K : AV → Hp → Option β) (a0 : AV) (h : Hp) : (R_journey_table_9 [a0] h).bind (fun p => K p.1 p.2) = f_journey_table_9 Try.prog t_journey_table_9 d_journey_table_9 NN K a0 h := by
  rw [← f_journey_table_9_run]; exact runF_bind rfl
noncomputable def F_journey_table_9 : Fun := closedX [.o] [.o] R_journey_table_9
theorem F_journey_table_9_ok : CSound Try.prog 60 F_journey_table_9 := closedX_sound _ _ R_journey_table_9_ok
noncomputable def G_journey_table_9 : DFun := closedXD [.o] [.o] R_journey_table_9
theorem G_journey_table_9_ro : Ro F_journey_table_9 G_journey_table_9 := closedX_ro _ _ _
theorem F_journey_table_9_run {a0 : AV} {v : AV} (ha : plains [a0] = true) (hv : f_journey_table_9 Try.prog t_journey_table_9 d_journey_table_9 NN (fun v g => cvt false g v) a0 [] = some v) (h : Hp) : F_journey_table_9 [a0] h = some (v, h) := by
  have e : (R_journey_table_9 (nrms [.o] [a0]) []).bind (fun (p : AV × Hp) => cvt false p.2 p.1) = some v := (R_journey_table_9_eq (fun v g => cvt false g v) a0 []).trans hv
  exact (closedX_bind (shr := [.o]) ha e h).trans (congrArg (fun x => some (x, h)) (nrmR_rep 1 v))
theorem F_journey_table_9_own {a0 : AV} {x0 : AV} {h : Hp} {v : AV} (ha : cvts false h [x0] = some [a0]) (hv : ∀ st, f_journey_table_9 Try.prog t_journey_table_9 d_journey_table_9 NN (fun v g => cvt st g v) a0 [] = some v) : F_journey_table_9 [x0] h = some (v, h) := by
  have e : ∀ st, (R_journey_table_9 (nrms [.o] [a0]) []).bind (fun (p : AV × Hp) => cvt st p.2 p.1) = some v := fun st => (R_journey_table_9_eq (fun v g => cvt st g v) a0 []).trans (hv st)
  exact (closedX_ownB (shr := [.o]) ha e).trans (congrArg (fun x => some (x, h)) (nrmR_rep 1 v))
/-! spile/journey.table$10 -/
noncomputable def t_journey_table_10 : Tab := T0
theorem t_journey_table_10_ok : TSound Try.prog t_journey_table_10 := TSound.zero
noncomputable def d_journey_table_10 : DTab := D0
theorem d_journey_table_10_ok : DSound Try.prog d_journey_table_10 := DSound.zero
noncomputable def R_journey_table_10 : Fun := runF Try.prog t_journey_table_10 d_journey_table_10 NN [0, 1] Try.f61 2
theorem R_journey_table_10_ok : CSound Try.prog 61 R_journey_table_10 := run_sound t_journey_table_10_ok d_journey_table_10_ok mixed Try.func61 (by kernel_rfl) NN
theorem R_journey_table_10_eq {β : Type} (K : AV → Hp → Option β) (a0 : AV) (a1 : AV) (h : Hp) : (R_journey_table_10 [a0, a1] h).bind (fun p => K p.1 p.2) = f_journey_table_10 Try.prog t_journey_table_10 d_journey_table_10 NN K a0 a1 h := by
  rw [← f_journey_table_10_run]; exact runF_bind rfl
noncomputable def F_journey_table_10 : Fun := R_journey_table_10
theorem F_journey_table_10_ok : CSound Try.prog 61 F_journey_table_10 := R_journey_table_10_ok
noncomputable def G_journey_table_10 : DFun := wrD F_journey_table_10
theorem F_journey_table_10_raw (a0 : AV) (a1 : AV) (h : Hp) : F_journey_table_10 [a0, a1] h = f_journey_table_10 Try.prog t_journey_table_10 d_journey_table_10 NN (fun v h => some (v, h)) a0 a1 h := (bind_pair _).symm.trans (R_journey_table_10_eq (fun v h => some (v, h)) a0 a1 h)
/-! spile/journey.table$11 -/
noncomputable def t_journey_table_11 : Tab := (updF T0 55 F_journey_node)
theorem t_journey_table_11_ok : TSound Try.prog t_journey_table_11 := (TSound.upd TSound.zero F_journey_node_ok)
@[simp] theorem t_journey_table_11_55 : t_journey_table_11 55 = some F_journey_node := rfl
noncomputable def d_journey_table_11 : DTab := D0
theorem d_journey_table_11_ok : DSound Try.prog d_journey_table_11 := DSound.zero
noncomputable def R_journey_table_11 : Fun := runF Try.prog t_journey_table_11 d_journey_table_11 NN [0, 1, 2] Try.f62 1
theorem R_journey_table_11_ok : CSound Try.prog 62 R_journey_table_11 := run_sound t_journey_table_11_ok d_journey_table_11_ok mixed Try.func62 (by kernel_rfl) NN
theorem R_journey_table_11_eq {β : Type} (K : AV → Hp → Option β) (a0 : AV) (h : Hp) : (R_journey_table_11 [a0] h).bind (fun p => K p.1 p.2) = f_journey_table_11 Try.prog t_journey_table_11 d_journey_table_11 NN K a0 h := by
  rw [← f_journey_table_11_run]; exact runF_bind rfl
noncomputable def F_journey_table_11 : Fun := closedX [.o] [.o] R_journey_table_11
theorem F_journey_table_11_ok : CSound Try.prog 62 F_journey_table_11 := closedX_sound _ _ R_journey_table_11_ok
noncomputable def G_journey_table_11 : DFun := closedXD [.o] [.o] R_journey_table_11
theorem G_journey_table_11_ro : Ro F_journey_table_11 G_journey_table_11 := closedX_ro _ _ _
theorem F_journey_table_11_run {a0 : AV} {v : AV} (ha : plains [a0] = true) (hv : f_journey_table_11 Try.prog t_journey_table_11 d_journey_table_11 NN (fun v g => cvt false g v) a0 [] = some v) (h : Hp) : F_journey_table_11 [a0] h = some (v, h) := by
  have e : (R_journey_table_11 (nrms [.o] [a0]) []).bind (fun (p : AV × Hp) => cvt false p.2 p.1) = some v := (R_journey_table_11_eq (fun v g => cvt false g v) a0 []).trans hv
  exact (closedX_bind (shr := [.o]) ha e h).trans (congrArg (fun x => some (x, h)) (nrmR_rep 1 v))
theorem F_journey_table_11_own {a0 : AV} {x0 : AV} {h : Hp} {v : AV} (ha : cvts false h [x0] = some [a0]) (hv : ∀ st, f_journey_table_11 Try.prog t_journey_table_11 d_journey_table_11 NN (fun v g => cvt st g v) a0 [] = some v) : F_journey_table_11 [x0] h = some (v, h) := by
  have e : ∀ st, (R_journey_table_11 (nrms [.o] [a0]) []).bind (fun (p : AV × Hp) => cvt st p.2 p.1) = some v := fun st => (R_journey_table_11_eq (fun v g => cvt st g v) a0 []).trans (hv st)
  exact (closedX_ownB (shr := [.o]) ha e).trans (congrArg (fun x => some (x, h)) (nrmR_rep 1 v))
/-! spile/journey.table$12 -/
noncomputable def t_journey_table_12 : Tab := T0
theorem t_journey_table_12_ok : TSound Try.prog t_journey_table_12 := TSound.zero
noncomputable def d_journey_table_12 : DTab := D0
theorem d_journey_table_12_ok : DSound Try.prog d_journey_table_12 := DSound.zero
noncomputable def R_journey_table_12 : Fun := runF Try.prog t_journey_table_12 d_journey_table_12 NN [0, 1, 3] Try.f63 2
theorem R_journey_table_12_ok : CSound Try.prog 63 R_journey_table_12 := run_sound t_journey_table_12_ok d_journey_table_12_ok mixed Try.func63 (by kernel_rfl) NN
theorem R_journey_table_12_eq {β : Type} (K : AV → Hp → Option β) (a0 : AV) (a1 : AV) (h : Hp) : (R_journey_table_12 [a0, a1] h).bind (fun p => K p.1 p.2) = f_journey_table_12 Try.prog t_journey_table_12 d_journey_table_12 NN K a0 a1 h := by
  rw [← f_journey_table_12_run]; exact runF_bind rfl
noncomputable def F_journey_table_12 : Fun := R_journey_table_12
theorem F_journey_table_12_ok : CSound Try.prog 63 F_journey_table_12 := R_journey_table_12_ok
noncomputable def G_journey_table_12 : DFun := wrD F_journey_table_12
theorem F_journey_table_12_raw (a0 : AV) (a1 : AV) (h : Hp) : F_journey_table_12 [a0, a1] h = f_journey_table_12 Try.prog t_journey_table_12 d_journey_table_12 NN (fun v h => some (v, h)) a0 a1 h := (bind_pair _).symm.trans (R_journey_table_12_eq (fun v h => some (v, h)) a0 a1 h)
/-! spile/journey.table$13 -/
noncomputable def t_journey_table_13 : Tab := T0
theorem t_journey_table_13_ok : TSound Try.prog t_journey_table_13 := TSound.zero
noncomputable def d_journey_table_13 : DTab := D0
theorem d_journey_table_13_ok : DSound Try.prog d_journey_table_13 := DSound.zero
noncomputable def R_journey_table_13 : Fun := runF Try.prog t_journey_table_13 d_journey_table_13 NN [0, 1, 3] Try.f64 2
theorem R_journey_table_13_ok : CSound Try.prog 64 R_journey_table_13 := run_sound t_journey_table_13_ok d_journey_table_13_ok mixed Try.func64 (by kernel_rfl) NN
theorem R_journey_table_13_eq {β : Type} (K : AV → Hp → Option β) (a0 : AV) (a1 : AV) (h : Hp) : (R_journey_table_13 [a0, a1] h).bind (fun p => K p.1 p.2) = f_journey_table_13 Try.prog t_journey_table_13 d_journey_table_13 NN K a0 a1 h := by
  rw [← f_journey_table_13_run]; exact runF_bind rfl
noncomputable def F_journey_table_13 : Fun := R_journey_table_13
theorem F_journey_table_13_ok : CSound Try.prog 64 F_journey_table_13 := R_journey_table_13_ok
noncomputable def G_journey_table_13 : DFun := wrD F_journey_table_13
theorem F_journey_table_13_raw (a0 : AV) (a1 : AV) (h : Hp) : F_journey_table_13 [a0, a1] h = f_journey_table_13 Try.prog t_journey_table_13 d_journey_table_13 NN (fun v h => some (v, h)) a0 a1 h := (bind_pair _).symm.trans (R_journey_table_13_eq (fun v h => some (v, h)) a0 a1 h)
/-! spile/journey.table$14 -/
noncomputable def t_journey_table_14 : Tab := T0
theorem t_journey_table_14_ok : TSound Try.prog t_journey_table_14 := TSound.zero
noncomputable def d_journey_table_14 : DTab := D0
theorem d_journey_table_14_ok : DSound Try.prog d_journey_table_14 := DSound.zero
noncomputable def R_journey_table_14 : Fun := runF Try.prog t_journey_table_14 d_journey_table_14 NN [0, 1, 3] Try.f65 2
theorem R_journey_table_14_ok : CSound Try.prog 65 R_journey_table_14 := run_sound t_journey_table_14_ok d_journey_table_14_ok mixed Try.func65 (by kernel_rfl) NN
theorem R_journey_table_14_eq {β : Type} (K : AV → Hp → Option β) (a0 : AV) (a1 : AV) (h : Hp) : (R_journey_table_14 [a0, a1] h).bind (fun p => K p.1 p.2) = f_journey_table_14 Try.prog t_journey_table_14 d_journey_table_14 NN K a0 a1 h := by
  rw [← f_journey_table_14_run]; exact runF_bind rfl
noncomputable def F_journey_table_14 : Fun := R_journey_table_14
theorem F_journey_table_14_ok : CSound Try.prog 65 F_journey_table_14 := R_journey_table_14_ok
noncomputable def G_journey_table_14 : DFun := wrD F_journey_table_14
theorem F_journey_table_14_raw (a0 : AV) (a1 : AV) (h : Hp) : F_journey_table_14 [a0, a1] h = f_journey_table_14 Try.prog t_journey_table_14 d_journey_table_14 NN (fun v h => some (v, h)) a0 a1 h := (bind_pair _).symm.trans (R_journey_table_14_eq (fun v h => some (v, h)) a0 a1 h)
/-! spile/journey.table$15 -/
noncomputable def t_journey_table_15 : Tab := (updF (updF T0 31 F_journey_in) 55 F_journey_node)
theorem t_journey_table_15_ok : TSound Try.prog t_journey_table_15 := (TSound.upd (TSound.upd TSound.zero F_journey_in_ok) F_journey_node_ok)
@[simp] theorem t_journey_table_15_31 : t_journey_table_15 31 = some F_journey_in := rfl
@[simp] theorem t_journey_table_15_55 : t_journey_table_15 55 = some F_journey_node := rfl
noncomputable def d_journey_table_15 : DTab := D0
theorem d_journey_table_15_ok : DSound Try.prog d_journey_table_15 := DSound.zero
noncomputable def R_journey_table_15 : Fun := runF Try.prog t_journey_table_15 d_journey_table_15 NN [0, 1, 2] Try.f66 1
theorem R_journey_table_15_ok : CSound Try.prog 66 R_journey_table_15 := run_sound t_journey_table_15_ok d_journey_table_15_ok mixed Try.func66 (by kernel_rfl) NN
theorem R_journey_table_15_eq {β : Type} (K : AV → Hp → Option β) (a0 : AV) (h : Hp) : (R_journey_table_15 [a0] h).bind (fun p => K p.1 p.2) = f_journey_table_15 Try.prog t_journey_table_15 d_journey_table_15 NN K a0 h := by
  rw [← f_journey_table_15_run]; exact runF_bind rfl
noncomputable def F_journey_table_15 : Fun := closedX [.o] [.o] R_journey_table_15
theorem F_journey_table_15_ok : CSound Try.prog 66 F_journey_table_15 := closedX_sound _ _ R_journey_table_15_ok
noncomputable def G_journey_table_15 : DFun := closedXD [.o] [.o] R_journey_table_15
theorem G_journey_table_15_ro : Ro F_journey_table_15 G_journey_table_15 := closedX_ro _ _ _
theorem F_journey_table_15_run {a0 : AV} {v : AV} (ha : plains [a0] = true) (hv : f_journey_table_15 Try.prog t_journey_table_15 d_journey_table_15 NN (fun v g => cvt false g v) a0 [] = some v) (h : Hp) : F_journey_table_15 [a0] h = some (v, h) := by
  have e : (R_journey_table_15 (nrms [.o] [a0]) []).bind (fun (p : AV × Hp) => cvt false p.2 p.1) = some v := (R_journey_table_15_eq (fun v g => cvt false g v) a0 []).trans hv
  exact (closedX_bind (shr := [.o]) ha e h).trans (congrArg (fun x => some (x, h)) (nrmR_rep 1 v))
theorem F_journey_table_15_own {a0 : AV} {x0 : AV} {h : Hp} {v : AV} (ha : cvts false h [x0] = some [a0]) (hv : ∀ st, f_journey_table_15 Try.prog t_journey_table_15 d_journey_table_15 NN (fun v g => cvt st g v) a0 [] = some v) : F_journey_table_15 [x0] h = some (v, h) := by
  have e : ∀ st, (R_journey_table_15 (nrms [.o] [a0]) []).bind (fun (p : AV × Hp) => cvt st p.2 p.1) = some v := fun st => (R_journey_table_15_eq (fun v g => cvt st g v) a0 []).trans (hv st)
  exact (closedX_ownB (shr := [.o]) ha e).trans (congrArg (fun x => some (x, h)) (nrmR_rep 1 v))
/-! spile/journey.table$16 -/
noncomputable def t_journey_table_16 : Tab := T0
theorem t_journey_table_16_ok : TSound Try.prog t_journey_table_16 := TSound.zero
noncomputable def d_journey_table_16 : DTab := D0
theorem d_journey_table_16_ok : DSound Try.prog d_journey_table_16 := DSound.zero
noncomputable def R_journey_table_16 : Fun := runF Try.prog t_journey_table_16 d_journey_table_16 NN [0, 1, 3] Try.f67 2
theorem R_journey_table_16_ok : CSound Try.prog 67 R_journey_table_16 := run_sound t_journey_table_16_ok d_journey_table_16_ok mixed Try.func67 (by kernel_rfl) NN
theorem R_journey_table_16_eq {β : Type} (K : AV → Hp → Option β) (a0 : AV) (a1 : AV) (h : Hp) : (R_journey_table_16 [a0, a1] h).bind (fun p => K p.1 p.2) = f_journey_table_16 Try.prog t_journey_table_16 d_journey_table_16 NN K a0 a1 h := by
  rw [← f_journey_table_16_run]; exact runF_bind rfl
noncomputable def F_journey_table_16 : Fun := R_journey_table_16
theorem F_journey_table_16_ok : CSound Try.prog 67 F_journey_table_16 := R_journey_table_16_ok
noncomputable def G_journey_table_16 : DFun := wrD F_journey_table_16
theorem F_journey_table_16_raw (a0 : AV) (a1 : AV) (h : Hp) : F_journey_table_16 [a0, a1] h = f_journey_table_16 Try.prog t_journey_table_16 d_journey_table_16 NN (fun v h => some (v, h)) a0 a1 h := (bind_pair _).symm.trans (R_journey_table_16_eq (fun v h => some (v, h)) a0 a1 h)
/-! spile/journey.table -/
noncomputable def t_journey_table : Tab := (updF (updF (updF (updF (updF (updF (updF (updF (updF (updF (updF (updF (updF (updF (updF (updF T0 51 F_journey_table_1) 52 F_journey_table_2) 53 F_journey_table_3) 54 F_journey_table_4) 56 F_journey_table_5) 57 F_journey_table_6) 58 F_journey_table_7) 59 F_journey_table_8) 60 F_journey_table_9) 61 F_journey_table_10) 62 F_journey_table_11) 63 F_journey_table_12) 64 F_journey_table_13) 65 F_journey_table_14) 66 F_journey_table_15) 67 F_journey_table_16)
theorem t_journey_table_ok : TSound Try.prog t_journey_table := (TSound.upd (TSound.upd (TSound.upd (TSound.upd (TSound.upd (TSound.upd (TSound.upd (TSound.upd (TSound.upd (TSound.upd (TSound.upd (TSound.upd (TSound.upd (TSound.upd (TSound.upd (TSound.upd TSound.zero F_journey_table_1_ok) F_journey_table_2_ok) F_journey_table_3_ok) F_journey_table_4_ok) F_journey_table_5_ok) F_journey_table_6_ok) F_journey_table_7_ok) F_journey_table_8_ok) F_journey_table_9_ok) F_journey_table_10_ok) F_journey_table_11_ok) F_journey_table_12_ok) F_journey_table_13_ok) F_journey_table_14_ok) F_journey_table_15_ok) F_journey_table_16_ok)
@[simp] theorem t_journey_table_51 : t_journey_table 51 = some F_journey_table_1 := rfl
@[simp] theorem t_journey_table_52 : t_journey_table 52 = some F_journey_table_2 := rfl
@[simp] theorem t_journey_table_53 : t_journey_table 53 = some F_journey_table_3 := rfl
@[simp] theorem t_journey_table_54 : t_journey_table 54 = some F_journey_table_4 := rfl
@[simp] theorem t_journey_table_56 : t_journey_table 56 = some F_journey_table_5 := rfl
@[simp] theorem t_journey_table_57 : t_journey_table 57 = some F_journey_table_6 := rfl
@[simp] theorem t_journey_table_58 : t_journey_table 58 = some F_journey_table_7 := rfl
@[simp] theorem t_journey_table_59 : t_journey_table 59 = some F_journey_table_8 := rfl
@[simp] theorem t_journey_table_60 : t_journey_table 60 = some F_journey_table_9 := rfl
@[simp] theorem t_journey_table_61 : t_journey_table 61 = some F_journey_table_10 := rfl
@[simp] theorem t_journey_table_62 : t_journey_table 62 = some F_journey_table_11 := rfl
@[simp] theorem t_journey_table_63 : t_journey_table 63 = some F_journey_table_12 := rfl
@[simp] theorem t_journey_table_64 : t_journey_table 64 = some F_journey_table_13 := rfl
@[simp] theorem t_journey_table_65 : t_journey_table 65 = some F_journey_table_14 := rfl
@[simp] theorem t_journey_table_66 : t_journey_table 66 = some F_journey_table_15 := rfl
@[simp] theorem t_journey_table_67 : t_journey_table 67 = some F_journey_table_16 := rfl
noncomputable def d_journey_table : DTab := D0
theorem d_journey_table_ok : DSound Try.prog d_journey_table := DSound.zero
noncomputable def R_journey_table : Fun := runF Try.prog t_journey_table d_journey_table NN [0, 1, 2, 3] Try.f40 0
theorem R_journey_table_ok : CSound Try.prog 40 R_journey_table := run_sound t_journey_table_ok d_journey_table_ok mixed Try.func40 (by kernel_rfl) NN
theorem R_journey_table_eq {β : Type} (K : AV → Hp → Option β) (h : Hp) : (R_journey_table [] h).bind (fun p => K p.1 p.2) = f_journey_table Try.prog t_journey_table d_journey_table NN K  h := by
  rw [← f_journey_table_run]; exact runF_bind rfl
noncomputable def F_journey_table : Fun := quietT R_journey_table
theorem F_journey_table_ok : CSound Try.prog 40 F_journey_table := quietT_sound R_journey_table_ok
noncomputable def G_journey_table : DFun := roD F_journey_table
theorem G_journey_table_ro : Ro F_journey_table G_journey_table := ro_ro _
theorem F_journey_table_q {h : Hp} {g : List AObj} {v : AV} (hv : f_journey_table Try.prog t_journey_table d_journey_table NN (fun v h => some (v, h))  h = some (v, h ++ g)) (hp : plain v = true) : F_journey_table [] h = some (v, h) := quietT_val (F := R_journey_table) (((bind_pair _).symm.trans (R_journey_table_eq (fun v h => some (v, h))  h)).trans hv) hp
/-! spile/journey.fault -/
noncomputable def t_journey_fault : Tab := (updF (updF (updF (updF (updF (updF (updF (updF (updF (updF (updF (updF (updF (updF (updF (updF (updF (updF T0 31 F_journey_in) 40 F_journey_table) 51 F_journey_table_1) 52 F_journey_table_2) 53 F_journey_table_3) 54 F_journey_table_4) 56 F_journey_table_5) 57 F_journey_table_6) 58 F_journey_table_7) 59 F_journey_table_8) 60 F_journey_table_9) 61 F_journey_table_10) 62 F_journey_table_11) 63 F_journey_table_12) 64 F_journey_table_13) 65 F_journey_table_14) 66 F_journey_table_15) 67 F_journey_table_16)
theorem t_journey_fault_ok : TSound Try.prog t_journey_fault := (TSound.upd (TSound.upd (TSound.upd (TSound.upd (TSound.upd (TSound.upd (TSound.upd (TSound.upd (TSound.upd (TSound.upd (TSound.upd (TSound.upd (TSound.upd (TSound.upd (TSound.upd (TSound.upd (TSound.upd (TSound.upd TSound.zero F_journey_in_ok) F_journey_table_ok) F_journey_table_1_ok) F_journey_table_2_ok) F_journey_table_3_ok) F_journey_table_4_ok) F_journey_table_5_ok) F_journey_table_6_ok) F_journey_table_7_ok) F_journey_table_8_ok) F_journey_table_9_ok) F_journey_table_10_ok) F_journey_table_11_ok) F_journey_table_12_ok) F_journey_table_13_ok) F_journey_table_14_ok) F_journey_table_15_ok) F_journey_table_16_ok)
@[simp] theorem t_journey_fault_31 : t_journey_fault 31 = some F_journey_in := rfl
@[simp] theorem t_journey_fault_40 : t_journey_fault 40 = some F_journey_table := rfl
@[simp] theorem t_journey_fault_51 : t_journey_fault 51 = some F_journey_table_1 := rfl
@[simp] theorem t_journey_fault_52 : t_journey_fault 52 = some F_journey_table_2 := rfl
@[simp] theorem t_journey_fault_53 : t_journey_fault 53 = some F_journey_table_3 := rfl
@[simp] theorem t_journey_fault_54 : t_journey_fault 54 = some F_journey_table_4 := rfl
@[simp] theorem t_journey_fault_56 : t_journey_fault 56 = some F_journey_table_5 := rfl
@[simp] theorem t_journey_fault_57 : t_journey_fault 57 = some F_journey_table_6 := rfl
@[simp] theorem t_journey_fault_58 : t_journey_fault 58 = some F_journey_table_7 := rfl
@[simp] theorem t_journey_fault_59 : t_journey_fault 59 = some F_journey_table_8 := rfl
@[simp] theorem t_journey_fault_60 : t_journey_fault 60 = some F_journey_table_9 := rfl
@[simp] theorem t_journey_fault_61 : t_journey_fault 61 = some F_journey_table_10 := rfl
@[simp] theorem t_journey_fault_62 : t_journey_fault 62 = some F_journey_table_11 := rfl
@[simp] theorem t_journey_fault_63 : t_journey_fault 63 = some F_journey_table_12 := rfl
@[simp] theorem t_journey_fault_64 : t_journey_fault 64 = some F_journey_table_13 := rfl
@[simp] theorem t_journey_fault_65 : t_journey_fault 65 = some F_journey_table_14 := rfl
@[simp] theorem t_journey_fault_66 : t_journey_fault 66 = some F_journey_table_15 := rfl
@[simp] theorem t_journey_fault_67 : t_journey_fault 67 = some F_journey_table_16 := rfl
noncomputable def d_journey_fault : DTab := (updD (updD (updD (updD (updD (updD (updD (updD (updD (updD (updD (updD (updD (updD (updD (updD (updD (updD D0 31 G_journey_in) 40 G_journey_table) 51 G_journey_table_1) 52 G_journey_table_2) 53 G_journey_table_3) 54 G_journey_table_4) 56 G_journey_table_5) 57 G_journey_table_6) 58 G_journey_table_7) 59 G_journey_table_8) 60 G_journey_table_9) 61 G_journey_table_10) 62 G_journey_table_11) 63 G_journey_table_12) 64 G_journey_table_13) 65 G_journey_table_14) 66 G_journey_table_15) 67 G_journey_table_16)
theorem d_journey_fault_ok : DSound Try.prog d_journey_fault := (DSound.wr (DSound.ro (DSound.wr (DSound.wr (DSound.wr (DSound.ro (DSound.wr (DSound.ro (DSound.ro (DSound.wr (DSound.ro (DSound.wr (DSound.ro (DSound.ro (DSound.ro (DSound.ro (DSound.ro (DSound.ro DSound.zero G_journey_in_ro F_journey_in_ok) G_journey_table_ro F_journey_table_ok) G_journey_table_1_ro F_journey_table_1_ok) G_journey_table_2_ro F_journey_table_2_ok) G_journey_table_3_ro F_journey_table_3_ok) G_journey_table_4_ro F_journey_table_4_ok) F_journey_table_5_ok) G_journey_table_6_ro F_journey_table_6_ok) F_journey_table_7_ok) G_journey_table_8_ro F_journey_table_8_ok) G_journey_table_9_ro F_journey_table_9_ok) F_journey_table_10_ok) G_journey_table_11_ro F_journey_table_11_ok) F_journey_table_12_ok) F_journey_table_13_ok) F_journey_table_14_ok) G_journey_table_15_ro F_journey_table_15_ok) F_journey_table_16_ok)
@[simp] theorem d_journey_fault_31 : d_journey_fault 31 = some G_journey_in := rfl
@[simp] theorem d_journey_fault_40 : d_journey_fault 40 = some G_journey_table := rfl
@[simp] theorem d_journey_fault_51 : d_journey_fault 51 = some G_journey_table_1 := rfl
@[simp] theorem d_journey_fault_52 : d_journey_fault 52 = some G_journey_table_2 := rfl
@[simp] theorem d_journey_fault_53 : d_journey_fault 53 = some G_journey_table_3 := rfl
@[simp] theorem d_journey_fault_54 : d_journey_fault 54 = some G_journey_table_4 := rfl
@[simp] theorem d_journey_fault_56 : d_journey_fault 56 = some G_journey_table_5 := rfl
@[simp] theorem d_journey_fault_57 : d_journey_fault 57 = some G_journey_table_6 := rfl
@[simp] theorem d_journey_fault_58 : d_journey_fault 58 = some G_journey_table_7 := rfl
@[simp] theorem d_journey_fault_59 : d_journey_fault 59 = some G_journey_table_8 := rfl
@[simp] theorem d_journey_fault_60 : d_journey_fault 60 = some G_journey_table_9 := rfl
@[simp] theorem d_journey_fault_61 : d_journey_fault 61 = some G_journey_table_10 := rfl
@[simp] theorem d_journey_fault_62 : d_journey_fault 62 = some G_journey_table_11 := rfl
@[simp] theorem d_journey_fault_63 : d_journey_fault 63 = some G_journey_table_12 := rfl
@[simp] theorem d_journey_fault_64 : d_journey_fault 64 = some G_journey_table_13 := rfl
@[simp] theorem d_journey_fault_65 : d_journey_fault 65 = some G_journey_table_14 := rfl
@[simp] theorem d_journey_fault_66 : d_journey_fault 66 = some G_journey_table_15 := rfl
@[simp] theorem d_journey_fault_67 : d_journey_fault 67 = some G_journey_table_16 := rfl
noncomputable def R_journey_fault : Fun := runF Try.prog t_journey_fault d_journey_fault NN [0, 1, 2, 3, 4, 7, 8, 28, 29, 34, 53, 76] Try.f39 4
theorem R_journey_fault_ok : CSound Try.prog 39 R_journey_fault := run_sound t_journey_fault_ok d_journey_fault_ok mixed Try.func39 (by kernel_rfl) NN
theorem R_journey_fault_eq {β : Type} (K : AV → Hp → Option β) (a0 : AV) (a1 : AV) (a2 : AV) (a3 : AV) (h : Hp) : (R_journey_fault [a0, a1, a2, a3] h).bind (fun p => K p.1 p.2) = f_journey_fault Try.prog t_journey_fault d_journey_fault NN K a0 a1 a2 a3 h := by
  rw [← f_journey_fault_run]; exact runF_bind rfl
noncomputable def F_journey_fault : Fun := closedX [.o, .o, .o, .o] [.o] R_journey_fault
theorem F_journey_fault_ok : CSound Try.prog 39 F_journey_fault := closedX_sound _ _ R_journey_fault_ok
noncomputable def G_journey_fault : DFun := closedXD [.o, .o, .o, .o] [.o] R_journey_fault
theorem G_journey_fault_ro : Ro F_journey_fault G_journey_fault := closedX_ro _ _ _
theorem F_journey_fault_run {a0 : AV} {a1 : AV} {a2 : AV} {a3 : AV} {v : AV} (ha : plains [a0, a1, a2, a3] = true) (hv : f_journey_fault Try.prog t_journey_fault d_journey_fault NN (fun v g => cvt false g v) a0 a1 a2 a3 [] = some v) (h : Hp) : F_journey_fault [a0, a1, a2, a3] h = some (v, h) := by
  have e : (R_journey_fault (nrms [.o, .o, .o, .o] [a0, a1, a2, a3]) []).bind (fun (p : AV × Hp) => cvt false p.2 p.1) = some v := (R_journey_fault_eq (fun v g => cvt false g v) a0 a1 a2 a3 []).trans hv
  exact (closedX_bind (shr := [.o]) ha e h).trans (congrArg (fun x => some (x, h)) (nrmR_rep 1 v))
theorem F_journey_fault_own {a0 : AV} {a1 : AV} {a2 : AV} {a3 : AV} {x0 : AV} {x1 : AV} {x2 : AV} {x3 : AV} {h : Hp} {v : AV} (ha : cvts false h [x0, x1, x2, x3] = some [a0, a1, a2, a3]) (hv : ∀ st, f_journey_fault Try.prog t_journey_fault d_journey_fault NN (fun v g => cvt st g v) a0 a1 a2 a3 [] = some v) : F_journey_fault [x0, x1, x2, x3] h = some (v, h) := by
  have e : ∀ st, (R_journey_fault (nrms [.o, .o, .o, .o] [a0, a1, a2, a3]) []).bind (fun (p : AV × Hp) => cvt st p.2 p.1) = some v := fun st => (R_journey_fault_eq (fun v g => cvt st g v) a0 a1 a2 a3 []).trans (hv st)
  exact (closedX_ownB (shr := [.o]) ha e).trans (congrArg (fun x => some (x, h)) (nrmR_rep 1 v))
/-! spile/journey.Run -/
noncomputable def t_journey_Run : Tab := (updF (updF (updF (updF (updF (updF (updF (updF (updF (updF (updF (updF (updF (updF (updF (updF (updF (updF T0 39 F_journey_fault) 40 F_journey_table) 51 F_journey_table_1) 52 F_journey_table_2) 53 F_journey_table_3) 54 F_journey_table_4) 56 F_journey_table_5) 57 F_journey_table_6) 58 F_journey_table_7) 59 F_journey_table_8) 60 F_journey_table_9) 61 F_journey_table_10) 62 F_journey_table_11) 63 F_journey_table_12) 64 F_journey_table_13) 65 F_journey_table_14) 66 F_journey_table_15) 67 F_journey_table_16)
theorem t_journey_Run_ok : TSound Try.prog t_journey_Run := (TSound.upd (TSound.upd (TSound.upd (TSound.upd (TSound.upd (TSound.upd (TSound.upd (TSound.upd (TSound.upd (TSound.upd (TSound.upd (TSound.upd (TSound.upd (TSound.upd (TSound.upd (TSound.upd (TSound.upd (TSound.upd TSound.zero F_journey_fault_ok) F_journey_table_ok) F_journey_table_1_ok) F_journey_table_2_ok) F_journey_table_3_ok) F_journey_table_4_ok) F_journey_table_5_ok) F_journey_table_6_ok) F_journey_table_7_ok) F_journey_table_8_ok) F_journey_table_9_ok) F_journey_table_10_ok) F_journey_table_11_ok) F_journey_table_12_ok) F_journey_table_13_ok) F_journey_table_14_ok) F_journey_table_15_ok) F_journey_table_16_ok)
@[simp] theorem t_journey_Run_39 : t_journey_Run 39 = some F_journey_fault := rfl
@[simp] theorem t_journey_Run_40 : t_journey_Run 40 = some F_journey_table := rfl
@[simp] theorem t_journey_Run_51 : t_journey_Run 51 = some F_journey_table_1 := rfl
@[simp] theorem t_journey_Run_52 : t_journey_Run 52 = some F_journey_table_2 := rfl
@[simp] theorem t_journey_Run_53 : t_journey_Run 53 = some F_journey_table_3 := rfl
@[simp] theorem t_journey_Run_54 : t_journey_Run 54 = some F_journey_table_4 := rfl
@[simp] theorem t_journey_Run_56 : t_journey_Run 56 = some F_journey_table_5 := rfl
@[simp] theorem t_journey_Run_57 : t_journey_Run 57 = some F_journey_table_6 := rfl
@[simp] theorem t_journey_Run_58 : t_journey_Run 58 = some F_journey_table_7 := rfl
@[simp] theorem t_journey_Run_59 : t_journey_Run 59 = some F_journey_table_8 := rfl
@[simp] theorem t_journey_Run_60 : t_journey_Run 60 = some F_journey_table_9 := rfl
@[simp] theorem t_journey_Run_61 : t_journey_Run 61 = some F_journey_table_10 := rfl
@[simp] theorem t_journey_Run_62 : t_journey_Run 62 = some F_journey_table_11 := rfl
@[simp] theorem t_journey_Run_63 : t_journey_Run 63 = some F_journey_table_12 := rfl
@[simp] theorem t_journey_Run_64 : t_journey_Run 64 = some F_journey_table_13 := rfl
@[simp] theorem t_journey_Run_65 : t_journey_Run 65 = some F_journey_table_14 := rfl
@[simp] theorem t_journey_Run_66 : t_journey_Run 66 = some F_journey_table_15 := rfl
@[simp] theorem t_journey_Run_67 : t_journey_Run 67 = some F_journey_table_16 := rfl
noncomputable def d_journey_Run : DTab := (updD (updD (updD (updD (updD (updD (updD (updD (updD (updD (updD (updD (updD (updD (updD (updD (updD (updD D0 39 G_journey_fault) 40 G_journey_table) 51 G_journey_table_1) 52 G_journey_table_2) 53 G_journey_table_3) 54 G_journey_table_4) 56 G_journey_table_5) 57 G_journey_table_6) 58 G_journey_table_7) 59 G_journey_table_8) 60 G_journey_table_9) 61 G_journey_table_10) 62 G_journey_table_11) 63 G_journey_table_12) 64 G_journey_table_13) 65 G_journey_table_14) 66 G_journey_table_15) 67 G_journey_table_16)
theorem d_journey_Run_ok : DSound Try.prog d_journey_Run := (DSound.wr (DSound.ro (DSound.wr (DSound.wr (DSound.wr (DSound.ro (DSound.wr (DSound.ro (DSound.ro (DSound.wr (DSound.ro (DSound.wr (DSound.ro (DSound.ro (DSound.ro (DSound.ro (DSound.ro (DSound.ro DSound.zero G_journey_fault_ro F_journey_fault_ok) G_journey_table_ro F_journey_table_ok) G_journey_table_1_ro F_journey_table_1_ok) G_journey_table_2_ro F_journey_table_2_ok) G_journey_table_3_ro F_journey_table_3_ok) G_journey_table_4_ro F_journey_table_4_ok) F_journey_table_5_ok) G_journey_table_6_ro F_journey_table_6_ok) F_journey_table_7_ok) G_journey_table_8_ro F_journey_table_8_ok) G_journey_table_9_ro F_journey_table_9_ok) F_journey_table_10_ok) G_journey_table_11_ro F_journey_table_11_ok) F_journey_table_12_ok) F_journey_table_13_ok) F_journey_table_14_ok) G_journey_table_15_ro F_journey_table_15_ok) F_journey_table_16_ok)
@[simp] theorem d_journey_Run_39 : d_journey_Run 39 = some G_journey_fault := rfl
@[simp] theorem d_journey_Run_40 : d_journey_Run 40 = some G_journey_table := rfl
@[simp] theorem d_journey_Run_51 : d_journey_Run 51 = some G_journey_table_1 := rfl
@[simp] theorem d_journey_Run_52 : d_journey_Run 52 = some G_journey_table_2 := rfl
@[simp] theorem d_journey_Run_53 : d_journey_Run 53 = some G_journey_table_3 := rfl
@[simp] theorem d_journey_Run_54 : d_journey_Run 54 = some G_journey_table_4 := rfl
@[simp] theorem d_journey_Run_56 : d_journey_Run 56 = some G_journey_table_5 := rfl
@[simp] theorem d_journey_Run_57 : d_journey_Run 57 = some G_journey_table_6 := rfl
@[simp] theorem d_journey_Run_58 : d_journey_Run 58 = some G_journey_table_7 := rfl
@[simp] theorem d_journey_Run_59 : d_journey_Run 59 = some G_journey_table_8 := rfl
@[simp] theorem d_journey_Run_60 : d_journey_Run 60 = some G_journey_table_9 := rfl
@[simp] theorem d_journey_Run_61 : d_journey_Run 61 = some G_journey_table_10 := rfl
@[simp] theorem d_journey_Run_62 : d_journey_Run 62 = some G_journey_table_11 := rfl
@[simp] theorem d_journey_Run_63 : d_journey_Run 63 = some G_journey_table_12 := rfl
@[simp] theorem d_journey_Run_64 : d_journey_Run 64 = some G_journey_table_13 := rfl
@[simp] theorem d_journey_Run_65 : d_journey_Run 65 = some G_journey_table_14 := rfl
@[simp] theorem d_journey_Run_66 : d_journey_Run 66 = some G_journey_table_15 := rfl
@[simp] theorem d_journey_Run_67 : d_journey_Run 67 = some G_journey_table_16 := rfl
noncomputable def R_journey_Run : Fun := runF Try.prog t_journey_Run d_journey_Run NN [0, 2, 3, 4, 5, 6, 7, 8, 9, 12, 14, 15, 16, 17, 28] Try.f18 1
theorem R_journey_Run_ok : CSound Try.prog 18 R_journey_Run := run_sound t_journey_Run_ok d_journey_Run_ok mixed Try.func18 (by kernel_rfl) NN
theorem R_journey_Run_eq {β : Type} (K : AV → Hp → Option β) (a0 : AV) (h : Hp) : (R_journey_Run [a0] h).bind (fun p => K p.1 p.2) = f_journey_Run Try.prog t_journey_Run d_journey_Run NN K a0 h := by
  rw [← f_journey_Run_run]; exact runF_bind rfl
noncomputable def F_journey_Run : Fun := closedX [.l 5] [.o, .o, .o] R_journey_Run
theorem F_journey_Run_ok : CSound Try.prog 18 F_journey_Run := closedX_sound _ _ R_journey_Run_ok
noncomputable def G_journey_Run : DFun := closedXD [.l 5] [.o, .o, .o] R_journey_Run
theorem G_journey_Run_ro : Ro F_journey_Run G_journey_Run := closedX_ro _ _ _
theorem F_journey_Run_run {a0 : AV} {v : AV} (ha : plains [a0] = true) (hv : f_journey_Run Try.prog t_journey_Run d_journey_Run NN (fun v g => cvt false g v) (nrm (.l 5) a0) [] = some v) (h : Hp) : F_journey_Run [a0] h = some (v, h) := by
  have e : (R_journey_Run (nrms [.l 5] [a0]) []).bind (fun (p : AV × Hp) => cvt false p.2 p.1) = some v := (R_journey_Run_eq (fun v g => cvt false g v) (nrm (.l 5) a0) []).trans hv
  exact (closedX_bind (shr := [.o, .o, .o]) ha e h).trans (congrArg (fun x => some (x, h)) (nrmR_rep 3 v))
theorem F_journey_Run_own {a0 : AV} {x0 : AV} {h : Hp} {v : AV} (ha : cvts false h [x0] = some [a0]) (hv : ∀ st, f_journey_Run Try.prog t_journey_Run d_journey_Run NN (fun v g => cvt st g v) (nrm (.l 5) a0) [] = some v) : F_journey_Run [x0] h = some (v, h) := by
  have e : ∀ st, (R_journey_Run (nrms [.l 5] [a0]) []).bind (fun (p : AV × Hp) => cvt st p.2 p.1) = some v := fun st => (R_journey_Run_eq (fun v g => cvt st g v) (nrm (.l 5) a0) []).trans (hv st)
  exact (closedX_ownB (shr := [.o, .o, .o]) ha e).trans (congrArg (fun x => some (x, h)) (nrmR_rep 3 v))
/-! spile/journey.right -/
noncomputable def t_journey_right : Tab := (updF T0 18 F_journey_Run)
theorem t_journey_right_ok : TSound Try.prog t_journey_right := (TSound.upd TSound.zero F_journey_Run_ok)
@[simp] theorem t_journey_right_18 : t_journey_right 18 = some F_journey_Run := rfl
noncomputable def d_journey_right : DTab := D0
theorem d_journey_right_ok : DSound Try.prog d_journey_right := DSound.zero
noncomputable def R_journey_right : Fun := runF Try.prog t_journey_right d_journey_right NN [0, 2, 5] Try.f30 1
theorem R_journey_right_ok : CSound Try.prog 30 R_journey_right := run_sound t_journey_right_ok d_journey_right_ok mixed Try.func30 (by kernel_rfl) NN
theorem R_journey_right_eq {β : Type} (K : AV → Hp → Option β) (a0 : AV) (h : Hp) : (R_journey_right [a0] h).bind (fun p => K p.1 p.2) = f_journey_right Try.prog t_journey_right d_journey_right NN K a0 h := by
  rw [← f_journey_right_run]; exact runF_bind rfl
noncomputable def F_journey_right : Fun := closedX [.l 5] [.o] R_journey_right
theorem F_journey_right_ok : CSound Try.prog 30 F_journey_right := closedX_sound _ _ R_journey_right_ok
noncomputable def G_journey_right : DFun := closedXD [.l 5] [.o] R_journey_right
theorem G_journey_right_ro : Ro F_journey_right G_journey_right := closedX_ro _ _ _
theorem F_journey_right_run {a0 : AV} {v : AV} (ha : plains [a0] = true) (hv : f_journey_right Try.prog t_journey_right d_journey_right NN (fun v g => cvt false g v) (nrm (.l 5) a0) [] = some v) (h : Hp) : F_journey_right [a0] h = some (v, h) := by
  have e : (R_journey_right (nrms [.l 5] [a0]) []).bind (fun (p : AV × Hp) => cvt false p.2 p.1) = some v := (R_journey_right_eq (fun v g => cvt false g v) (nrm (.l 5) a0) []).trans hv
  exact (closedX_bind (shr := [.o]) ha e h).trans (congrArg (fun x => some (x, h)) (nrmR_rep 1 v))
theorem F_journey_right_own {a0 : AV} {x0 : AV} {h : Hp} {v : AV} (ha : cvts false h [x0] = some [a0]) (hv : ∀ st, f_journey_right Try.prog t_journey_right d_journey_right NN (fun v g => cvt st g v) (nrm (.l 5) a0) [] = some v) : F_journey_right [x0] h = some (v, h) := by
  have e : ∀ st, (R_journey_right (nrms [.l 5] [a0]) []).bind (fun (p : AV × Hp) => cvt st p.2 p.1) = some v := fun st => (R_journey_right_eq (fun v g => cvt st g v) (nrm (.l 5) a0) []).trans (hv st)
  exact (closedX_ownB (shr := [.o]) ha e).trans (congrArg (fun x => some (x, h)) (nrmR_rep 1 v))
/-! spile/journey.Transit$1 -/
noncomputable def t_journey_Transit_1 : Tab := (updF T0 30 F_journey_right)
theorem t_journey_Transit_1_ok : TSound Try.prog t_journey_Transit_1 := (TSound.upd TSound.zero F_journey_right_ok)
@[simp] theorem t_journey_Transit_1_30 : t_journey_Transit_1 30 = some F_journey_right := rfl
noncomputable def d_journey_Transit_1 : DTab := D0
theorem d_journey_Transit_1_ok : DSound Try.prog d_journey_Transit_1 := DSound.zero
noncomputable def R_journey_Transit_1 : Fun := runF Try.prog t_journey_Transit_1 d_journey_Transit_1 NN [0, 2] Try.f29 1
theorem R_journey_Transit_1_ok : CSound Try.prog 29 R_journey_Transit_1 := run_sound t_journey_Transit_1_ok d_journey_Transit_1_ok mixed Try.func29 (by kernel_rfl) NN
theorem R_journey_Transit_1_eq {β : Type} (K : AV → Hp → Option β) (a0 : AV) (h : Hp) : (R_journey_Transit_1 [a0] h).bind (fun p => K p.1 p.2) = f_journey_Transit_1 Try.prog t_journey_Transit_1 d_journey_Transit_1 NN K a0 h := by
  rw [← f_journey_Transit_1_run]; exact runF_bind rfl
noncomputable def F_journey_Transit_1 : Fun := closedX [.l 5] [.o] R_journey_Transit_1
theorem F_journey_Transit_1_ok : CSound Try.prog 29 F_journey_Transit_1 := closedX_sound _ _ R_journey_Transit_1_ok
noncomputable def G_journey_Transit_1 : DFun := closedXD [.l 5] [.o] R_journey_Transit_1
theorem G_journey_Transit_1_ro : Ro F_journey_Transit_1 G_journey_Transit_1 := closedX_ro _ _ _
theorem F_journey_Transit_1_run {a0 : AV} {v : AV} (ha : plains [a0] = true) (hv : f_journey_Transit_1 Try.prog t_journey_Transit_1 d_journey_Transit_1 NN (fun v g => cvt false g v) (nrm (.l 5) a0) [] = some v) (h : Hp) : F_journey_Transit_1 [a0] h = some (v, h) := by
  have e : (R_journey_Transit_1 (nrms [.l 5] [a0]) []).bind (fun (p : AV × Hp) => cvt false p.2 p.1) = some v := (R_journey_Transit_1_eq (fun v g => cvt false g v) (nrm (.l 5) a0) []).trans hv
  exact (closedX_bind (shr := [.o]) ha e h).trans (congrArg (fun x => some (x, h)) (nrmR_rep 1 v))
theorem F_journey_Transit_1_own {a0 : AV} {x0 : AV} {h : Hp} {v : AV} (ha : cvts false h [x0] = some [a0]) (hv : ∀ st, f_journey_Transit_1 Try.prog t_journey_Transit_1 d_journey_Transit_1 NN (fun v g => cvt st g v) (nrm (.l 5) a0) [] = some v) : F_journey_Transit_1 [x0] h = some (v, h) := by
  have e : ∀ st, (R_journey_Transit_1 (nrms [.l 5] [a0]) []).bind (fun (p : AV × Hp) => cvt st p.2 p.1) = some v := fun st => (R_journey_Transit_1_eq (fun v g => cvt st g v) (nrm (.l 5) a0) []).trans (hv st)
  exact (closedX_ownB (shr := [.o]) ha e).trans (congrArg (fun x => some (x, h)) (nrmR_rep 1 v))
/-! slices.IndexFunc[[][]spile/api.Leg,[]spile/api.Leg] : spile/journey.Transit$1 -/
noncomputable def t_slices_IndexFunc_Leg__journey_Transit_1 : Tab := (updF T0 29 F_journey_Transit_1)
theorem t_slices_IndexFunc_Leg__journey_Transit_1_ok : TSound Try.prog t_slices_IndexFunc_Leg__journey_Transit_1 := (TSound.upd TSound.zero F_journey_Transit_1_ok)
@[simp] theorem t_slices_IndexFunc_Leg__journey_Transit_1_29 : t_slices_IndexFunc_Leg__journey_Transit_1 29 = some F_journey_Transit_1 := rfl
noncomputable def d_slices_IndexFunc_Leg__journey_Transit_1 : DTab := D0
theorem d_slices_IndexFunc_Leg__journey_Transit_1_ok : DSound Try.prog d_slices_IndexFunc_Leg__journey_Transit_1 := DSound.zero
noncomputable def R_slices_IndexFunc_Leg__journey_Transit_1 : Fun := runF Try.prog t_slices_IndexFunc_Leg__journey_Transit_1 d_slices_IndexFunc_Leg__journey_Transit_1 NN [0, 1, 4, 5, 7, 8, 9, 16] Try.f28 2
theorem R_slices_IndexFunc_Leg__journey_Transit_1_ok : CSound Try.prog 28 R_slices_IndexFunc_Leg__journey_Transit_1 := run_sound t_slices_IndexFunc_Leg__journey_Transit_1_ok d_slices_IndexFunc_Leg__journey_Transit_1_ok mixed Try.func28 (by kernel_rfl) NN
theorem R_slices_IndexFunc_Leg__journey_Transit_1_eq {β : Type} (K : AV → Hp → Option β) (a0 : AV) (a1 : AV) (h : Hp) : (R_slices_IndexFunc_Leg__journey_Transit_1 [a0, a1] h).bind (fun p => K p.1 p.2) = f_slices_IndexFunc_Leg Try.prog t_slices_IndexFunc_Leg__journey_Transit_1 d_slices_IndexFunc_Leg__journey_Transit_1 NN K a0 a1 h := by
  rw [← f_slices_IndexFunc_Leg_run]; exact runF_bind rfl
noncomputable def F_slices_IndexFunc_Leg__journey_Transit_1 : Fun := closedX [.l 1, .o] [.o] R_slices_IndexFunc_Leg__journey_Transit_1
theorem F_slices_IndexFunc_Leg__journey_Transit_1_ok : CSound Try.prog 28 F_slices_IndexFunc_Leg__journey_Transit_1 := closedX_sound _ _ R_slices_IndexFunc_Leg__journey_Transit_1_ok
noncomputable def G_slices_IndexFunc_Leg__journey_Transit_1 : DFun := closedXD [.l 1, .o] [.o] R_slices_IndexFunc_Leg__journey_Transit_1
theorem G_slices_IndexFunc_Leg__journey_Transit_1_ro : Ro F_slices_IndexFunc_Leg__journey_Transit_1 G_slices_IndexFunc_Leg__journey_Transit_1 := closedX_ro _ _ _
theorem F_slices_IndexFunc_Leg__journey_Transit_1_run {a0 : AV} {a1 : AV} {v : AV} (ha : plains [a0, a1] = true) (hv : f_slices_IndexFunc_Leg Try.prog t_slices_IndexFunc_Leg__journey_Transit_1 d_slices_IndexFunc_Leg__journey_Transit_1 NN (fun v g => cvt false g v) (nrm (.l 1) a0) a1 [] = some v) (h : Hp) : F_slices_IndexFunc_Leg__journey_Transit_1 [a0, a1] h = some (v, h) := by
  have e : (R_slices_IndexFunc_Leg__journey_Transit_1 (nrms [.l 1, .o] [a0, a1]) []).bind (fun (p : AV × Hp) => cvt false p.2 p.1) = some v := (R_slices_IndexFunc_Leg__journey_Transit_1_eq (fun v g => cvt false g v) (nrm (.l 1) a0) a1 []).trans hv
  exact (closedX_bind (shr := [.o]) ha e h).trans (congrArg (fun x => some (x, h)) (nrmR_rep 1 v))
theorem F_slices_IndexFunc_Leg__journey_Transit_1_own {a0 : AV} {a1 : AV} {x0 : AV} {x1 : AV} {h : Hp} {v : AV} (ha : cvts false h [x0, x1] = some [a0, a1]) (hv : ∀ st, f_slices_IndexFunc_Leg Try.prog t_slices_IndexFunc_Leg__journey_Transit_1 d_slices_IndexFunc_Leg__journey_Transit_1 NN (fun v g => cvt st g v) (nrm (.l 1) a0) a1 [] = some v) : F_slices_IndexFunc_Leg__journey_Transit_1 [x0, x1] h = some (v, h) := by
  have e : ∀ st, (R_slices_IndexFunc_Leg__journey_Transit_1 (nrms [.l 1, .o] [a0, a1]) []).bind (fun (p : AV × Hp) => cvt st p.2 p.1) = some v := fun st => (R_slices_IndexFunc_Leg__journey_Transit_1_eq (fun v g => cvt st g v) (nrm (.l 1) a0) a1 []).trans (hv st)
  exact (closedX_ownB (shr := [.o]) ha e).trans (congrArg (fun x => some (x, h)) (nrmR_rep 1 v))
/-! slices.ContainsFunc[[][]spile/api.Leg,[]spile/api.Leg] : spile/journey.Transit$1 -/
noncomputable def t_slices_ContainsFunc_Leg__journey_Transit_1 : Tab := (updF T0 28 F_slices_IndexFunc_Leg__journey_Transit_1)
theorem t_slices_ContainsFunc_Leg__journey_Transit_1_ok : TSound Try.prog t_slices_ContainsFunc_Leg__journey_Transit_1 := (TSound.upd TSound.zero F_slices_IndexFunc_Leg__journey_Transit_1_ok)
@[simp] theorem t_slices_ContainsFunc_Leg__journey_Transit_1_28 : t_slices_ContainsFunc_Leg__journey_Transit_1 28 = some F_slices_IndexFunc_Leg__journey_Transit_1 := rfl
noncomputable def d_slices_ContainsFunc_Leg__journey_Transit_1 : DTab := D0
theorem d_slices_ContainsFunc_Leg__journey_Transit_1_ok : DSound Try.prog d_slices_ContainsFunc_Leg__journey_Transit_1 := DSound.zero
noncomputable def R_slices_ContainsFunc_Leg__journey_Transit_1 : Fun := runF Try.prog t_slices_ContainsFunc_Leg__journey_Transit_1 d_slices_ContainsFunc_Leg__journey_Transit_1 NN [0, 1, 4] Try.f9 2
theorem R_slices_ContainsFunc_Leg__journey_Transit_1_ok : CSound Try.prog 9 R_slices_ContainsFunc_Leg__journey_Transit_1 := run_sound t_slices_ContainsFunc_Leg__journey_Transit_1_ok d_slices_ContainsFunc_Leg__journey_Transit_1_ok mixed Try.func9 (by kernel_rfl) NN
theorem R_slices_ContainsFunc_Leg__journey_Transit_1_eq {β : Type} (K : AV → Hp → Option β) (a0 : AV) (a1 : AV) (h : Hp) : (R_slices_ContainsFunc_Leg__journey_Transit_1 [a0, a1] h).bind (fun p => K p.1 p.2) = f_slices_ContainsFunc_Leg Try.prog t_slices_ContainsFunc_Leg__journey_Transit_1 d_slices_ContainsFunc_Leg__journey_Transit_1 NN K a0 a1 h := by
  rw [← f_slices_ContainsFunc_Leg_run]; exact runF_bind rfl
noncomputable def F_slices_ContainsFunc_Leg__journey_Transit_1 : Fun := closedX [.l 1, .o] [.o] R_slices_ContainsFunc_Leg__journey_Transit_1
theorem F_slices_ContainsFunc_Leg__journey_Transit_1_ok : CSound Try.prog 9 F_slices_ContainsFunc_Leg__journey_Transit_1 := closedX_sound _ _ R_slices_ContainsFunc_Leg__journey_Transit_1_ok
noncomputable def G_slices_ContainsFunc_Leg__journey_Transit_1 : DFun := closedXD [.l 1, .o] [.o] R_slices_ContainsFunc_Leg__journey_Transit_1
theorem G_slices_ContainsFunc_Leg__journey_Transit_1_ro : Ro F_slices_ContainsFunc_Leg__journey_Transit_1 G_slices_ContainsFunc_Leg__journey_Transit_1 := closedX_ro _ _ _
theorem F_slices_ContainsFunc_Leg__journey_Transit_1_run {a0 : AV} {a1 : AV} {v : AV} (ha : plains [a0, a1] = true) (hv : f_slices_ContainsFunc_Leg Try.prog t_slices_ContainsFunc_Leg__journey_Transit_1 d_slices_ContainsFunc_Leg__journey_Transit_1 NN (fun v g => cvt false g v) (nrm (.l 1) a0) a1 [] = some v) (h : Hp) : F_slices_ContainsFunc_Leg__journey_Transit_1 [a0, a1] h = some (v, h) := by
  have e : (R_slices_ContainsFunc_Leg__journey_Transit_1 (nrms [.l 1, .o] [a0, a1]) []).bind (fun (p : AV × Hp) => cvt false p.2 p.1) = some v := (R_slices_ContainsFunc_Leg__journey_Transit_1_eq (fun v g => cvt false g v) (nrm (.l 1) a0) a1 []).trans hv
  exact (closedX_bind (shr := [.o]) ha e h).trans (congrArg (fun x => some (x, h)) (nrmR_rep 1 v))
theorem F_slices_ContainsFunc_Leg__journey_Transit_1_own {a0 : AV} {a1 : AV} {x0 : AV} {x1 : AV} {h : Hp} {v : AV} (ha : cvts false h [x0, x1] = some [a0, a1]) (hv : ∀ st, f_slices_ContainsFunc_Leg Try.prog t_slices_ContainsFunc_Leg__journey_Transit_1 d_slices_ContainsFunc_Leg__journey_Transit_1 NN (fun v g => cvt st g v) (nrm (.l 1) a0) a1 [] = some v) : F_slices_ContainsFunc_Leg__journey_Transit_1 [x0, x1] h = some (v, h) := by
  have e : ∀ st, (R_slices_ContainsFunc_Leg__journey_Transit_1 (nrms [.l 1, .o] [a0, a1]) []).bind (fun (p : AV × Hp) => cvt st p.2 p.1) = some v := fun st => (R_slices_ContainsFunc_Leg__journey_Transit_1_eq (fun v g => cvt st g v) (nrm (.l 1) a0) a1 []).trans (hv st)
  exact (closedX_ownB (shr := [.o]) ha e).trans (congrArg (fun x => some (x, h)) (nrmR_rep 1 v))
/-! spile/journey.at -/
noncomputable def t_journey_at : Tab := (updF T0 18 F_journey_Run)
theorem t_journey_at_ok : TSound Try.prog t_journey_at := (TSound.upd TSound.zero F_journey_Run_ok)
@[simp] theorem t_journey_at_18 : t_journey_at 18 = some F_journey_Run := rfl
noncomputable def d_journey_at : DTab := D0
theorem d_journey_at_ok : DSound Try.prog d_journey_at := DSound.zero
noncomputable def R_journey_at : Fun := runF Try.prog t_journey_at d_journey_at NN [0, 1, 4, 5, 6, 21] Try.f32 2
theorem R_journey_at_ok : CSound Try.prog 32 R_journey_at := run_sound t_journey_at_ok d_journey_at_ok mixed Try.func32 (by kernel_rfl) NN
theorem R_journey_at_eq {β : Type} (K : AV → Hp → Option β) (a0 : AV) (a1 : AV) (h : Hp) : (R_journey_at [a0, a1] h).bind (fun p => K p.1 p.2) = f_journey_at Try.prog t_journey_at d_journey_at NN K a0 a1 h := by
  rw [← f_journey_at_run]; exact runF_bind rfl
noncomputable def F_journey_at : Fun := closedX [.l 5, .o] [.o] R_journey_at
theorem F_journey_at_ok : CSound Try.prog 32 F_journey_at := closedX_sound _ _ R_journey_at_ok
noncomputable def G_journey_at : DFun := closedXD [.l 5, .o] [.o] R_journey_at
theorem G_journey_at_ro : Ro F_journey_at G_journey_at := closedX_ro _ _ _
theorem F_journey_at_run {a0 : AV} {a1 : AV} {v : AV} (ha : plains [a0, a1] = true) (hv : f_journey_at Try.prog t_journey_at d_journey_at NN (fun v g => cvt false g v) (nrm (.l 5) a0) a1 [] = some v) (h : Hp) : F_journey_at [a0, a1] h = some (v, h) := by
  have e : (R_journey_at (nrms [.l 5, .o] [a0, a1]) []).bind (fun (p : AV × Hp) => cvt false p.2 p.1) = some v := (R_journey_at_eq (fun v g => cvt false g v) (nrm (.l 5) a0) a1 []).trans hv
  exact (closedX_bind (shr := [.o]) ha e h).trans (congrArg (fun x => some (x, h)) (nrmR_rep 1 v))
theorem F_journey_at_own {a0 : AV} {a1 : AV} {x0 : AV} {x1 : AV} {h : Hp} {v : AV} (ha : cvts false h [x0, x1] = some [a0, a1]) (hv : ∀ st, f_journey_at Try.prog t_journey_at d_journey_at NN (fun v g => cvt st g v) (nrm (.l 5) a0) a1 [] = some v) : F_journey_at [x0, x1] h = some (v, h) := by
  have e : ∀ st, (R_journey_at (nrms [.l 5, .o] [a0, a1]) []).bind (fun (p : AV × Hp) => cvt st p.2 p.1) = some v := fun st => (R_journey_at_eq (fun v g => cvt st g v) (nrm (.l 5) a0) a1 []).trans (hv st)
  exact (closedX_ownB (shr := [.o]) ha e).trans (congrArg (fun x => some (x, h)) (nrmR_rep 1 v))
/-! spile/journey.Transit -/
noncomputable def t_journey_Transit : Tab := (updF (updF (updF (updF T0 9 F_slices_ContainsFunc_Leg__journey_Transit_1) 29 F_journey_Transit_1) 31 F_journey_in) 32 F_journey_at)
theorem t_journey_Transit_ok : TSound Try.prog t_journey_Transit := (TSound.upd (TSound.upd (TSound.upd (TSound.upd TSound.zero F_slices_ContainsFunc_Leg__journey_Transit_1_ok) F_journey_Transit_1_ok) F_journey_in_ok) F_journey_at_ok)
@[simp] theorem t_journey_Transit_9 : t_journey_Transit 9 = some F_slices_ContainsFunc_Leg__journey_Transit_1 := rfl
@[simp] theorem t_journey_Transit_29 : t_journey_Transit 29 = some F_journey_Transit_1 := rfl
@[simp] theorem t_journey_Transit_31 : t_journey_Transit 31 = some F_journey_in := rfl
@[simp] theorem t_journey_Transit_32 : t_journey_Transit 32 = some F_journey_at := rfl
noncomputable def d_journey_Transit : DTab := D0
theorem d_journey_Transit_ok : DSound Try.prog d_journey_Transit := DSound.zero
noncomputable def R_journey_Transit : Fun := runF Try.prog t_journey_Transit d_journey_Transit NN [0, 1, 4, 5, 6, 8, 9, 13, 16, 20, 21, 22, 23] Try.f13 2
theorem R_journey_Transit_ok : CSound Try.prog 13 R_journey_Transit := run_sound t_journey_Transit_ok d_journey_Transit_ok mixed Try.func13 (by kernel_rfl) NN
theorem R_journey_Transit_eq {β : Type} (K : AV → Hp → Option β) (a0 : AV) (a1 : AV) (h : Hp) : (R_journey_Transit [a0, a1] h).bind (fun p => K p.1 p.2) = f_journey_Transit Try.prog t_journey_Transit d_journey_Transit NN K a0 a1 h := by
  rw [← f_journey_Transit_run]; exact runF_bind rfl
noncomputable def F_journey_Transit : Fun := closedX [.l 1, .o] [.o, .o] R_journey_Transit
theorem F_journey_Transit_ok : CSound Try.prog 13 F_journey_Transit := closedX_sound _ _ R_journey_Transit_ok
noncomputable def G_journey_Transit : DFun := closedXD [.l 1, .o] [.o, .o] R_journey_Transit
theorem G_journey_Transit_ro : Ro F_journey_Transit G_journey_Transit := closedX_ro _ _ _
theorem F_journey_Transit_run {a0 : AV} {a1 : AV} {v : AV} (ha : plains [a0, a1] = true) (hv : f_journey_Transit Try.prog t_journey_Transit d_journey_Transit NN (fun v g => cvt false g v) (nrm (.l 1) a0) a1 [] = some v) (h : Hp) : F_journey_Transit [a0, a1] h = some (v, h) := by
  have e : (R_journey_Transit (nrms [.l 1, .o] [a0, a1]) []).bind (fun (p : AV × Hp) => cvt false p.2 p.1) = some v := (R_journey_Transit_eq (fun v g => cvt false g v) (nrm (.l 1) a0) a1 []).trans hv
  exact (closedX_bind (shr := [.o, .o]) ha e h).trans (congrArg (fun x => some (x, h)) (nrmR_rep 2 v))
theorem F_journey_Transit_own {a0 : AV} {a1 : AV} {x0 : AV} {x1 : AV} {h : Hp} {v : AV} (ha : cvts false h [x0, x1] = some [a0, a1]) (hv : ∀ st, f_journey_Transit Try.prog t_journey_Transit d_journey_Transit NN (fun v g => cvt st g v) (nrm (.l 1) a0) a1 [] = some v) : F_journey_Transit [x0, x1] h = some (v, h) := by
  have e : ∀ st, (R_journey_Transit (nrms [.l 1, .o] [a0, a1]) []).bind (fun (p : AV × Hp) => cvt st p.2 p.1) = some v := fun st => (R_journey_Transit_eq (fun v g => cvt st g v) (nrm (.l 1) a0) a1 []).trans (hv st)
  exact (closedX_ownB (shr := [.o, .o]) ha e).trans (congrArg (fun x => some (x, h)) (nrmR_rep 2 v))
/-! spile/season.in -/
noncomputable def t_season_in : Tab := T0
theorem t_season_in_ok : TSound Try.prog t_season_in := TSound.zero
noncomputable def d_season_in : DTab := D0
theorem d_season_in_ok : DSound Try.prog d_season_in := DSound.zero
noncomputable def R_season_in : Fun := runF Try.prog t_season_in d_season_in NN [0, 1, 2, 6] Try.f44 3
theorem R_season_in_ok : CSound Try.prog 44 R_season_in := run_sound t_season_in_ok d_season_in_ok mixed Try.func44 (by kernel_rfl) NN
theorem R_season_in_eq {β : Type} (K : AV → Hp → Option β) (a0 : AV) (a1 : AV) (a2 : AV) (h : Hp) : (R_season_in [a0, a1, a2] h).bind (fun p => K p.1 p.2) = f_season_in Try.prog t_season_in d_season_in NN K a0 a1 a2 h := by
  rw [← f_season_in_run]; exact runF_bind rfl
noncomputable def F_season_in : Fun := closedX [.o, .o, .o] [.o] R_season_in
theorem F_season_in_ok : CSound Try.prog 44 F_season_in := closedX_sound _ _ R_season_in_ok
noncomputable def G_season_in : DFun := closedXD [.o, .o, .o] [.o] R_season_in
theorem G_season_in_ro : Ro F_season_in G_season_in := closedX_ro _ _ _
theorem F_season_in_run {a0 : AV} {a1 : AV} {a2 : AV} {v : AV} (ha : plains [a0, a1, a2] = true) (hv : f_season_in Try.prog t_season_in d_season_in NN (fun v g => cvt false g v) a0 a1 a2 [] = some v) (h : Hp) : F_season_in [a0, a1, a2] h = some (v, h) := by
  have e : (R_season_in (nrms [.o, .o, .o] [a0, a1, a2]) []).bind (fun (p : AV × Hp) => cvt false p.2 p.1) = some v := (R_season_in_eq (fun v g => cvt false g v) a0 a1 a2 []).trans hv
  exact (closedX_bind (shr := [.o]) ha e h).trans (congrArg (fun x => some (x, h)) (nrmR_rep 1 v))
theorem F_season_in_own {a0 : AV} {a1 : AV} {a2 : AV} {x0 : AV} {x1 : AV} {x2 : AV} {h : Hp} {v : AV} (ha : cvts false h [x0, x1, x2] = some [a0, a1, a2]) (hv : ∀ st, f_season_in Try.prog t_season_in d_season_in NN (fun v g => cvt st g v) a0 a1 a2 [] = some v) : F_season_in [x0, x1, x2] h = some (v, h) := by
  have e : ∀ st, (R_season_in (nrms [.o, .o, .o] [a0, a1, a2]) []).bind (fun (p : AV × Hp) => cvt st p.2 p.1) = some v := fun st => (R_season_in_eq (fun v g => cvt st g v) a0 a1 a2 []).trans (hv st)
  exact (closedX_ownB (shr := [.o]) ha e).trans (congrArg (fun x => some (x, h)) (nrmR_rep 1 v))
/-! spile/season.before -/
noncomputable def t_season_before : Tab := T0
theorem t_season_before_ok : TSound Try.prog t_season_before := TSound.zero
noncomputable def d_season_before : DTab := D0
theorem d_season_before_ok : DSound Try.prog d_season_before := DSound.zero
noncomputable def R_season_before : Fun := runF Try.prog t_season_before d_season_before NN [0, 1, 2, 3, 4, 9, 19] Try.f45 2
theorem R_season_before_ok : CSound Try.prog 45 R_season_before := run_sound t_season_before_ok d_season_before_ok mixed Try.func45 (by kernel_rfl) NN
theorem R_season_before_eq {β : Type} (K : AV → Hp → Option β) (a0 : AV) (a1 : AV) (h : Hp) : (R_season_before [a0, a1] h).bind (fun p => K p.1 p.2) = f_season_before Try.prog t_season_before d_season_before NN K a0 a1 h := by
  rw [← f_season_before_run]; exact runF_bind rfl
noncomputable def F_season_before : Fun := closedX [.o, .o] [.o] R_season_before
theorem F_season_before_ok : CSound Try.prog 45 F_season_before := closedX_sound _ _ R_season_before_ok
noncomputable def G_season_before : DFun := closedXD [.o, .o] [.o] R_season_before
theorem G_season_before_ro : Ro F_season_before G_season_before := closedX_ro _ _ _
theorem F_season_before_run {a0 : AV} {a1 : AV} {v : AV} (ha : plains [a0, a1] = true) (hv : f_season_before Try.prog t_season_before d_season_before NN (fun v g => cvt false g v) a0 a1 [] = some v) (h : Hp) : F_season_before [a0, a1] h = some (v, h) := by
  have e : (R_season_before (nrms [.o, .o] [a0, a1]) []).bind (fun (p : AV × Hp) => cvt false p.2 p.1) = some v := (R_season_before_eq (fun v g => cvt false g v) a0 a1 []).trans hv
  exact (closedX_bind (shr := [.o]) ha e h).trans (congrArg (fun x => some (x, h)) (nrmR_rep 1 v))
theorem F_season_before_own {a0 : AV} {a1 : AV} {x0 : AV} {x1 : AV} {h : Hp} {v : AV} (ha : cvts false h [x0, x1] = some [a0, a1]) (hv : ∀ st, f_season_before Try.prog t_season_before d_season_before NN (fun v g => cvt st g v) a0 a1 [] = some v) : F_season_before [x0, x1] h = some (v, h) := by
  have e : ∀ st, (R_season_before (nrms [.o, .o] [a0, a1]) []).bind (fun (p : AV × Hp) => cvt st p.2 p.1) = some v := fun st => (R_season_before_eq (fun v g => cvt st g v) a0 a1 []).trans (hv st)
  exact (closedX_ownB (shr := [.o]) ha e).trans (congrArg (fun x => some (x, h)) (nrmR_rep 1 v))
/-! spile/season.Check -/
noncomputable def t_season_Check : Tab := (updF (updF T0 44 F_season_in) 45 F_season_before)
theorem t_season_Check_ok : TSound Try.prog t_season_Check := (TSound.upd (TSound.upd TSound.zero F_season_in_ok) F_season_before_ok)
@[simp] theorem t_season_Check_44 : t_season_Check 44 = some F_season_in := rfl
@[simp] theorem t_season_Check_45 : t_season_Check 45 = some F_season_before := rfl
noncomputable def d_season_Check : DTab := D0
theorem d_season_Check_ok : DSound Try.prog d_season_Check := DSound.zero
noncomputable def R_season_Check : Fun := runF Try.prog t_season_Check d_season_Check NN [0, 2, 3, 4, 5, 8, 9, 10, 11, 12, 16, 40] Try.f36 1
theorem R_season_Check_ok : CSound Try.prog 36 R_season_Check := run_sound t_season_Check_ok d_season_Check_ok mixed Try.func36 (by kernel_rfl) NN
theorem R_season_Check_eq {β : Type} (K : AV → Hp → Option β) (a0 : AV) (h : Hp) : (R_season_Check [a0] h).bind (fun p => K p.1 p.2) = f_season_Check Try.prog t_season_Check d_season_Check NN K a0 h := by
  rw [← f_season_Check_run]; exact runF_bind rfl
noncomputable def F_season_Check : Fun := closedX [.l 4] [.o, .o] R_season_Check
theorem F_season_Check_ok : CSound Try.prog 36 F_season_Check := closedX_sound _ _ R_season_Check_ok
noncomputable def G_season_Check : DFun := closedXD [.l 4] [.o, .o] R_season_Check
theorem G_season_Check_ro : Ro F_season_Check G_season_Check := closedX_ro _ _ _
theorem F_season_Check_run {a0 : AV} {v : AV} (ha : plains [a0] = true) (hv : f_season_Check Try.prog t_season_Check d_season_Check NN (fun v g => cvt false g v) (nrm (.l 4) a0) [] = some v) (h : Hp) : F_season_Check [a0] h = some (v, h) := by
  have e : (R_season_Check (nrms [.l 4] [a0]) []).bind (fun (p : AV × Hp) => cvt false p.2 p.1) = some v := (R_season_Check_eq (fun v g => cvt false g v) (nrm (.l 4) a0) []).trans hv
  exact (closedX_bind (shr := [.o, .o]) ha e h).trans (congrArg (fun x => some (x, h)) (nrmR_rep 2 v))
theorem F_season_Check_own {a0 : AV} {x0 : AV} {h : Hp} {v : AV} (ha : cvts false h [x0] = some [a0]) (hv : ∀ st, f_season_Check Try.prog t_season_Check d_season_Check NN (fun v g => cvt st g v) (nrm (.l 4) a0) [] = some v) : F_season_Check [x0] h = some (v, h) := by
  have e : ∀ st, (R_season_Check (nrms [.l 4] [a0]) []).bind (fun (p : AV × Hp) => cvt st p.2 p.1) = some v := fun st => (R_season_Check_eq (fun v g => cvt st g v) (nrm (.l 4) a0) []).trans (hv st)
  exact (closedX_ownB (shr := [.o, .o]) ha e).trans (congrArg (fun x => some (x, h)) (nrmR_rep 2 v))
/-! spile/season.right -/
noncomputable def t_season_right : Tab := (updF T0 36 F_season_Check)
theorem t_season_right_ok : TSound Try.prog t_season_right := (TSound.upd TSound.zero F_season_Check_ok)
@[simp] theorem t_season_right_36 : t_season_right 36 = some F_season_Check := rfl
noncomputable def d_season_right : DTab := D0
theorem d_season_right_ok : DSound Try.prog d_season_right := DSound.zero
noncomputable def R_season_right : Fun := runF Try.prog t_season_right d_season_right NN [0, 2, 4] Try.f46 1
theorem R_season_right_ok : CSound Try.prog 46 R_season_right := run_sound t_season_right_ok d_season_right_ok mixed Try.func46 (by kernel_rfl) NN
theorem R_season_right_eq {β : Type} (K : AV → Hp → Option β) (a0 : AV) (h : Hp) : (R_season_right [a0] h).bind (fun p => K p.1 p.2) = f_season_right Try.prog t_season_right d_season_right NN K a0 h := by
  rw [← f_season_right_run]; exact runF_bind rfl
noncomputable def F_season_right : Fun := closedX [.l 4] [.o] R_season_right
theorem F_season_right_ok : CSound Try.prog 46 F_season_right := closedX_sound _ _ R_season_right_ok
noncomputable def G_season_right : DFun := closedXD [.l 4] [.o] R_season_right
theorem G_season_right_ro : Ro F_season_right G_season_right := closedX_ro _ _ _
theorem F_season_right_run {a0 : AV} {v : AV} (ha : plains [a0] = true) (hv : f_season_right Try.prog t_season_right d_season_right NN (fun v g => cvt false g v) (nrm (.l 4) a0) [] = some v) (h : Hp) : F_season_right [a0] h = some (v, h) := by
  have e : (R_season_right (nrms [.l 4] [a0]) []).bind (fun (p : AV × Hp) => cvt false p.2 p.1) = some v := (R_season_right_eq (fun v g => cvt false g v) (nrm (.l 4) a0) []).trans hv
  exact (closedX_bind (shr := [.o]) ha e h).trans (congrArg (fun x => some (x, h)) (nrmR_rep 1 v))
theorem F_season_right_own {a0 : AV} {x0 : AV} {h : Hp} {v : AV} (ha : cvts false h [x0] = some [a0]) (hv : ∀ st, f_season_right Try.prog t_season_right d_season_right NN (fun v g => cvt st g v) (nrm (.l 4) a0) [] = some v) : F_season_right [x0] h = some (v, h) := by
  have e : ∀ st, (R_season_right (nrms [.l 4] [a0]) []).bind (fun (p : AV × Hp) => cvt st p.2 p.1) = some v := fun st => (R_season_right_eq (fun v g => cvt st g v) (nrm (.l 4) a0) []).trans (hv st)
  exact (closedX_ownB (shr := [.o]) ha e).trans (congrArg (fun x => some (x, h)) (nrmR_rep 1 v))
/-! spile/proportion.amount -/
noncomputable def t_proportion_amount : Tab := T0
theorem t_proportion_amount_ok : TSound Try.prog t_proportion_amount := TSound.zero
noncomputable def d_proportion_amount : DTab := D0
theorem d_proportion_amount_ok : DSound Try.prog d_proportion_amount := DSound.zero
noncomputable def R_proportion_amount : Fun := runF Try.prog t_proportion_amount d_proportion_amount NN [0, 2] Try.f76 1
theorem R_proportion_amount_ok : CSound Try.prog 76 R_proportion_amount := run_sound t_proportion_amount_ok d_proportion_amount_ok mixed Try.func76 (by kernel_rfl) NN
theorem R_proportion_amount_eq {β : Type} (K : AV → Hp → Option β) (a0 : AV) (h : Hp) : (R_proportion_amount [a0] h).bind (fun p => K p.1 p.2) = f_proportion_amount Try.prog t_proportion_amount d_proportion_amount NN K a0 h := by
  rw [← f_proportion_amount_run]; exact runF_bind rfl
noncomputable def F_proportion_amount : Fun := closedX [.o] [.o] R_proportion_amount
theorem F_proportion_amount_ok : CSound Try.prog 76 F_proportion_amount := closedX_sound _ _ R_proportion_amount_ok
noncomputable def G_proportion_amount : DFun := closedXD [.o] [.o] R_proportion_amount
theorem G_proportion_amount_ro : Ro F_proportion_amount G_proportion_amount := closedX_ro _ _ _
theorem F_proportion_amount_run {a0 : AV} {v : AV} (ha : plains [a0] = true) (hv : f_proportion_amount Try.prog t_proportion_amount d_proportion_amount NN (fun v g => cvt false g v) a0 [] = some v) (h : Hp) : F_proportion_amount [a0] h = some (v, h) := by
  have e : (R_proportion_amount (nrms [.o] [a0]) []).bind (fun (p : AV × Hp) => cvt false p.2 p.1) = some v := (R_proportion_amount_eq (fun v g => cvt false g v) a0 []).trans hv
  exact (closedX_bind (shr := [.o]) ha e h).trans (congrArg (fun x => some (x, h)) (nrmR_rep 1 v))
theorem F_proportion_amount_own {a0 : AV} {x0 : AV} {h : Hp} {v : AV} (ha : cvts false h [x0] = some [a0]) (hv : ∀ st, f_proportion_amount Try.prog t_proportion_amount d_proportion_amount NN (fun v g => cvt st g v) a0 [] = some v) : F_proportion_amount [x0] h = some (v, h) := by
  have e : ∀ st, (R_proportion_amount (nrms [.o] [a0]) []).bind (fun (p : AV × Hp) => cvt st p.2 p.1) = some v := fun st => (R_proportion_amount_eq (fun v g => cvt st g v) a0 []).trans (hv st)
  exact (closedX_ownB (shr := [.o]) ha e).trans (congrArg (fun x => some (x, h)) (nrmR_rep 1 v))
/-! spile/proportion.amounts$1 -/
noncomputable def t_proportion_amounts_1 : Tab := (updF T0 76 F_proportion_amount)
theorem t_proportion_amounts_1_ok : TSound Try.prog t_proportion_amounts_1 := (TSound.upd TSound.zero F_proportion_amount_ok)
@[simp] theorem t_proportion_amounts_1_76 : t_proportion_amounts_1 76 = some F_proportion_amount := rfl
noncomputable def d_proportion_amounts_1 : DTab := D0
theorem d_proportion_amounts_1_ok : DSound Try.prog d_proportion_amounts_1 := DSound.zero
noncomputable def R_proportion_amounts_1 : Fun := runF Try.prog t_proportion_amounts_1 d_proportion_amounts_1 NN [0, 2] Try.f75 1
theorem R_proportion_amounts_1_ok : CSound Try.prog 75 R_proportion_amounts_1 := run_sound t_proportion_amounts_1_ok d_proportion_amounts_1_ok mixed Try.func75 (by kernel_rfl) NN
theorem R_proportion_amounts_1_eq {β : Type} (K : AV → Hp → Option β) (a0 : AV) (h : Hp) : (R_proportion_amounts_1 [a0] h).bind (fun p => K p.1 p.2) = f_proportion_amounts_1 Try.prog t_proportion_amounts_1 d_proportion_amounts_1 NN K a0 h := by
  rw [← f_proportion_amounts_1_run]; exact runF_bind rfl
noncomputable def F_proportion_amounts_1 : Fun := closedX [.o] [.o] R_proportion_amounts_1
theorem F_proportion_amounts_1_ok : CSound Try.prog 75 F_proportion_amounts_1 := closedX_sound _ _ R_proportion_amounts_1_ok
noncomputable def G_proportion_amounts_1 : DFun := closedXD [.o] [.o] R_proportion_amounts_1
theorem G_proportion_amounts_1_ro : Ro F_proportion_amounts_1 G_proportion_amounts_1 := closedX_ro _ _ _
theorem F_proportion_amounts_1_run {a0 : AV} {v : AV} (ha : plains [a0] = true) (hv : f_proportion_amounts_1 Try.prog t_proportion_amounts_1 d_proportion_amounts_1 NN (fun v g => cvt false g v) a0 [] = some v) (h : Hp) : F_proportion_amounts_1 [a0] h = some (v, h) := by
  have e : (R_proportion_amounts_1 (nrms [.o] [a0]) []).bind (fun (p : AV × Hp) => cvt false p.2 p.1) = some v := (R_proportion_amounts_1_eq (fun v g => cvt false g v) a0 []).trans hv
  exact (closedX_bind (shr := [.o]) ha e h).trans (congrArg (fun x => some (x, h)) (nrmR_rep 1 v))
theorem F_proportion_amounts_1_own {a0 : AV} {x0 : AV} {h : Hp} {v : AV} (ha : cvts false h [x0] = some [a0]) (hv : ∀ st, f_proportion_amounts_1 Try.prog t_proportion_amounts_1 d_proportion_amounts_1 NN (fun v g => cvt st g v) a0 [] = some v) : F_proportion_amounts_1 [x0] h = some (v, h) := by
  have e : ∀ st, (R_proportion_amounts_1 (nrms [.o] [a0]) []).bind (fun (p : AV × Hp) => cvt st p.2 p.1) = some v := fun st => (R_proportion_amounts_1_eq (fun v g => cvt st g v) a0 []).trans (hv st)
  exact (closedX_ownB (shr := [.o]) ha e).trans (congrArg (fun x => some (x, h)) (nrmR_rep 1 v))
/-! slices.IndexFunc[[]int,int] : spile/proportion.amounts$1 -/
noncomputable def t_slices_IndexFunc_int__proportion_amounts_1 : Tab := (updF T0 75 F_proportion_amounts_1)
theorem t_slices_IndexFunc_int__proportion_amounts_1_ok : TSound Try.prog t_slices_IndexFunc_int__proportion_amounts_1 := (TSound.upd TSound.zero F_proportion_amounts_1_ok)
@[simp] theorem t_slices_IndexFunc_int__proportion_amounts_1_75 : t_slices_IndexFunc_int__proportion_amounts_1 75 = some F_proportion_amounts_1 := rfl
noncomputable def d_slices_IndexFunc_int__proportion_amounts_1 : DTab := D0
theorem d_slices_IndexFunc_int__proportion_amounts_1_ok : DSound Try.prog d_slices_IndexFunc_int__proportion_amounts_1 := DSound.zero
noncomputable def R_slices_IndexFunc_int__proportion_amounts_1 : Fun := runF Try.prog t_slices_IndexFunc_int__proportion_amounts_1 d_slices_IndexFunc_int__proportion_amounts_1 NN [0, 1, 4, 5, 7, 8, 9, 16] Try.f85 2
theorem R_slices_IndexFunc_int__proportion_amounts_1_ok : CSound Try.prog 85 R_slices_IndexFunc_int__proportion_amounts_1 := run_sound t_slices_IndexFunc_int__proportion_amounts_1_ok d_slices_IndexFunc_int__proportion_amounts_1_ok mixed Try.func85 (by kernel_rfl) NN
theorem R_slices_IndexFunc_int__proportion_amounts_1_eq {β : Type} (K : AV → Hp → Option β) (a0 : AV) (a1 : AV) (h : Hp) : (R_slices_IndexFunc_int__proportion_amounts_1 [a0, a1] h).bind (fun p => K p.1 p.2) = f_slices_IndexFunc_int Try.prog t_slices_IndexFunc_int__proportion_amounts_1 d_slices_IndexFunc_int__proportion_amounts_1 NN K a0 a1 h := by
  rw [← f_slices_IndexFunc_int_run]; exact runF_bind rfl
noncomputable def F_slices_IndexFunc_int__proportion_amounts_1 : Fun := closedX [.l 1, .o] [.o] R_slices_IndexFunc_int__proportion_amounts_1
theorem F_slices_IndexFunc_int__proportion_amounts_1_ok : CSound Try.prog 85 F_slices_IndexFunc_int__proportion_amounts_1 := closedX_sound _ _ R_slices_IndexFunc_int__proportion_amounts_1_ok
noncomputable def G_slices_IndexFunc_int__proportion_amounts_1 : DFun := closedXD [.l 1, .o] [.o] R_slices_IndexFunc_int__proportion_amounts_1
theorem G_slices_IndexFunc_int__proportion_amounts_1_ro : Ro F_slices_IndexFunc_int__proportion_amounts_1 G_slices_IndexFunc_int__proportion_amounts_1 := closedX_ro _ _ _
theorem F_slices_IndexFunc_int__proportion_amounts_1_run {a0 : AV} {a1 : AV} {v : AV} (ha : plains [a0, a1] = true) (hv : f_slices_IndexFunc_int Try.prog t_slices_IndexFunc_int__proportion_amounts_1 d_slices_IndexFunc_int__proportion_amounts_1 NN (fun v g => cvt false g v) (nrm (.l 1) a0) a1 [] = some v) (h : Hp) : F_slices_IndexFunc_int__proportion_amounts_1 [a0, a1] h = some (v, h) := by
  have e : (R_slices_IndexFunc_int__proportion_amounts_1 (nrms [.l 1, .o] [a0, a1]) []).bind (fun (p : AV × Hp) => cvt false p.2 p.1) = some v := (R_slices_IndexFunc_int__proportion_amounts_1_eq (fun v g => cvt false g v) (nrm (.l 1) a0) a1 []).trans hv
  exact (closedX_bind (shr := [.o]) ha e h).trans (congrArg (fun x => some (x, h)) (nrmR_rep 1 v))
theorem F_slices_IndexFunc_int__proportion_amounts_1_own {a0 : AV} {a1 : AV} {x0 : AV} {x1 : AV} {h : Hp} {v : AV} (ha : cvts false h [x0, x1] = some [a0, a1]) (hv : ∀ st, f_slices_IndexFunc_int Try.prog t_slices_IndexFunc_int__proportion_amounts_1 d_slices_IndexFunc_int__proportion_amounts_1 NN (fun v g => cvt st g v) (nrm (.l 1) a0) a1 [] = some v) : F_slices_IndexFunc_int__proportion_amounts_1 [x0, x1] h = some (v, h) := by
  have e : ∀ st, (R_slices_IndexFunc_int__proportion_amounts_1 (nrms [.l 1, .o] [a0, a1]) []).bind (fun (p : AV × Hp) => cvt st p.2 p.1) = some v := fun st => (R_slices_IndexFunc_int__proportion_amounts_1_eq (fun v g => cvt st g v) (nrm (.l 1) a0) a1 []).trans (hv st)
  exact (closedX_ownB (shr := [.o]) ha e).trans (congrArg (fun x => some (x, h)) (nrmR_rep 1 v))
/-! slices.ContainsFunc[[]int,int] : spile/proportion.amounts$1 -/
noncomputable def t_slices_ContainsFunc_int__proportion_amounts_1 : Tab := (updF T0 85 F_slices_IndexFunc_int__proportion_amounts_1)
theorem t_slices_ContainsFunc_int__proportion_amounts_1_ok : TSound Try.prog t_slices_ContainsFunc_int__proportion_amounts_1 := (TSound.upd TSound.zero F_slices_IndexFunc_int__proportion_amounts_1_ok)
@[simp] theorem t_slices_ContainsFunc_int__proportion_amounts_1_85 : t_slices_ContainsFunc_int__proportion_amounts_1 85 = some F_slices_IndexFunc_int__proportion_amounts_1 := rfl
noncomputable def d_slices_ContainsFunc_int__proportion_amounts_1 : DTab := D0
theorem d_slices_ContainsFunc_int__proportion_amounts_1_ok : DSound Try.prog d_slices_ContainsFunc_int__proportion_amounts_1 := DSound.zero
noncomputable def R_slices_ContainsFunc_int__proportion_amounts_1 : Fun := runF Try.prog t_slices_ContainsFunc_int__proportion_amounts_1 d_slices_ContainsFunc_int__proportion_amounts_1 NN [0, 1, 4] Try.f74 2
theorem R_slices_ContainsFunc_int__proportion_amounts_1_ok : CSound Try.prog 74 R_slices_ContainsFunc_int__proportion_amounts_1 := run_sound t_slices_ContainsFunc_int__proportion_amounts_1_ok d_slices_ContainsFunc_int__proportion_amounts_1_ok mixed Try.func74 (by kernel_rfl) NN
theorem R_slices_ContainsFunc_int__proportion_amounts_1_eq {β : Type} (K : AV → Hp → Option β) (a0 : AV) (a1 : AV) (h : Hp) : (R_slices_ContainsFunc_int__proportion_amounts_1 [a0, a1] h).bind (fun p => K p.1 p.2) = f_slices_ContainsFunc_int Try.prog t_slices_ContainsFunc_int__proportion_amounts_1 d_slices_ContainsFunc_int__proportion_amounts_1 NN K a0 a1 h := by
  rw [← f_slices_ContainsFunc_int_run]; exact runF_bind rfl
noncomputable def F_slices_ContainsFunc_int__proportion_amounts_1 : Fun := closedX [.l 1, .o] [.o] R_slices_ContainsFunc_int__proportion_amounts_1
theorem F_slices_ContainsFunc_int__proportion_amounts_1_ok : CSound Try.prog 74 F_slices_ContainsFunc_int__proportion_amounts_1 := closedX_sound _ _ R_slices_ContainsFunc_int__proportion_amounts_1_ok
noncomputable def G_slices_ContainsFunc_int__proportion_amounts_1 : DFun := closedXD [.l 1, .o] [.o] R_slices_ContainsFunc_int__proportion_amounts_1
theorem G_slices_ContainsFunc_int__proportion_amounts_1_ro : Ro F_slices_ContainsFunc_int__proportion_amounts_1 G_slices_ContainsFunc_int__proportion_amounts_1 := closedX_ro _ _ _
theorem F_slices_ContainsFunc_int__proportion_amounts_1_run {a0 : AV} {a1 : AV} {v : AV} (ha : plains [a0, a1] = true) (hv : f_slices_ContainsFunc_int Try.prog t_slices_ContainsFunc_int__proportion_amounts_1 d_slices_ContainsFunc_int__proportion_amounts_1 NN (fun v g => cvt false g v) (nrm (.l 1) a0) a1 [] = some v) (h : Hp) : F_slices_ContainsFunc_int__proportion_amounts_1 [a0, a1] h = some (v, h) := by
  have e : (R_slices_ContainsFunc_int__proportion_amounts_1 (nrms [.l 1, .o] [a0, a1]) []).bind (fun (p : AV × Hp) => cvt false p.2 p.1) = some v := (R_slices_ContainsFunc_int__proportion_amounts_1_eq (fun v g => cvt false g v) (nrm (.l 1) a0) a1 []).trans hv
  exact (closedX_bind (shr := [.o]) ha e h).trans (congrArg (fun x => some (x, h)) (nrmR_rep 1 v))
theorem F_slices_ContainsFunc_int__proportion_amounts_1_own {a0 : AV} {a1 : AV} {x0 : AV} {x1 : AV} {h : Hp} {v : AV} (ha : cvts false h [x0, x1] = some [a0, a1]) (hv : ∀ st, f_slices_ContainsFunc_int Try.prog t_slices_ContainsFunc_int__proportion_amounts_1 d_slices_ContainsFunc_int__proportion_amounts_1 NN (fun v g => cvt st g v) (nrm (.l 1) a0) a1 [] = some v) : F_slices_ContainsFunc_int__proportion_amounts_1 [x0, x1] h = some (v, h) := by
  have e : ∀ st, (R_slices_ContainsFunc_int__proportion_amounts_1 (nrms [.l 1, .o] [a0, a1]) []).bind (fun (p : AV × Hp) => cvt st p.2 p.1) = some v := fun st => (R_slices_ContainsFunc_int__proportion_amounts_1_eq (fun v g => cvt st g v) (nrm (.l 1) a0) a1 []).trans (hv st)
  exact (closedX_ownB (shr := [.o]) ha e).trans (congrArg (fun x => some (x, h)) (nrmR_rep 1 v))
/-! spile/proportion.amounts -/
noncomputable def t_proportion_amounts : Tab := (updF (updF T0 74 F_slices_ContainsFunc_int__proportion_amounts_1) 75 F_proportion_amounts_1)
theorem t_proportion_amounts_ok : TSound Try.prog t_proportion_amounts := (TSound.upd (TSound.upd TSound.zero F_slices_ContainsFunc_int__proportion_amounts_1_ok) F_proportion_amounts_1_ok)
@[simp] theorem t_proportion_amounts_74 : t_proportion_amounts 74 = some F_slices_ContainsFunc_int__proportion_amounts_1 := rfl
@[simp] theorem t_proportion_amounts_75 : t_proportion_amounts 75 = some F_proportion_amounts_1 := rfl
noncomputable def d_proportion_amounts : DTab := D0
theorem d_proportion_amounts_ok : DSound Try.prog d_proportion_amounts := DSound.zero
noncomputable def R_proportion_amounts : Fun := runF Try.prog t_proportion_amounts d_proportion_amounts NN [0, 2] Try.f69 1
theorem R_proportion_amounts_ok : CSound Try.prog 69 R_proportion_amounts := run_sound t_proportion_amounts_ok d_proportion_amounts_ok mixed Try.func69 (by kernel_rfl) NN
theorem R_proportion_amounts_eq {β : Type} (K : AV → Hp → Option β) (a0 : AV) (h : Hp) : (R_proportion_amounts [a0] h).bind (fun p => K p.1 p.2) = f_proportion_amounts Try.prog t_proportion_amounts d_proportion_amounts NN K a0 h := by
  rw [← f_proportion_amounts_run]; exact runF_bind rfl
noncomputable def F_proportion_amounts : Fun := closedX [.l 1] [.o] R_proportion_amounts
theorem F_proportion_amounts_ok : CSound Try.prog 69 F_proportion_amounts := closedX_sound _ _ R_proportion_amounts_ok
noncomputable def G_proportion_amounts : DFun := closedXD [.l 1] [.o] R_proportion_amounts
theorem G_proportion_amounts_ro : Ro F_proportion_amounts G_proportion_amounts := closedX_ro _ _ _
theorem F_proportion_amounts_run {a0 : AV} {v : AV} (ha : plains [a0] = true) (hv : f_proportion_amounts Try.prog t_proportion_amounts d_proportion_amounts NN (fun v g => cvt false g v) (nrm (.l 1) a0) [] = some v) (h : Hp) : F_proportion_amounts [a0] h = some (v, h) := by
  have e : (R_proportion_amounts (nrms [.l 1] [a0]) []).bind (fun (p : AV × Hp) => cvt false p.2 p.1) = some v := (R_proportion_amounts_eq (fun v g => cvt false g v) (nrm (.l 1) a0) []).trans hv
  exact (closedX_bind (shr := [.o]) ha e h).trans (congrArg (fun x => some (x, h)) (nrmR_rep 1 v))
theorem F_proportion_amounts_own {a0 : AV} {x0 : AV} {h : Hp} {v : AV} (ha : cvts false h [x0] = some [a0]) (hv : ∀ st, f_proportion_amounts Try.prog t_proportion_amounts d_proportion_amounts NN (fun v g => cvt st g v) (nrm (.l 1) a0) [] = some v) : F_proportion_amounts [x0] h = some (v, h) := by
  have e : ∀ st, (R_proportion_amounts (nrms [.l 1] [a0]) []).bind (fun (p : AV × Hp) => cvt st p.2 p.1) = some v := fun st => (R_proportion_amounts_eq (fun v g => cvt st g v) (nrm (.l 1) a0) []).trans (hv st)
  exact (closedX_ownB (shr := [.o]) ha e).trans (congrArg (fun x => some (x, h)) (nrmR_rep 1 v))
/-! math/bits.Mul64 -/
noncomputable def t_bits_Mul64 : Tab := T0
theorem t_bits_Mul64_ok : TSound Try.prog t_bits_Mul64 := TSound.zero
noncomputable def d_bits_Mul64 : DTab := D0
theorem d_bits_Mul64_ok : DSound Try.prog d_bits_Mul64 := DSound.zero
noncomputable def R_bits_Mul64 : Fun := runF Try.prog t_bits_Mul64 d_bits_Mul64 NN [0, 1, 4, 5, 6, 7, 8, 9, 10, 11, 12, 13] Try.f86 2
theorem R_bits_Mul64_ok : CSound Try.prog 86 R_bits_Mul64 := run_sound t_bits_Mul64_ok d_bits_Mul64_ok mixed Try.func86 (by kernel_rfl) NN
theorem R_bits_Mul64_eq {β : Type} (K : AV → Hp → Option β) (a0 : AV) (a1 : AV) (h : Hp) : (R_bits_Mul64 [a0, a1] h).bind (fun p => K p.1 p.2) = f_bits_Mul64 Try.prog t_bits_Mul64 d_bits_Mul64 NN K a0 a1 h := by
  rw [← f_bits_Mul64_run]; exact runF_bind rfl
noncomputable def F_bits_Mul64 : Fun := closedX [.o, .o] [.o, .o] R_bits_Mul64
theorem F_bits_Mul64_ok : CSound Try.prog 86 F_bits_Mul64 := closedX_sound _ _ R_bits_Mul64_ok
noncomputable def G_bits_Mul64 : DFun := closedXD [.o, .o] [.o, .o] R_bits_Mul64
theorem G_bits_Mul64_ro : Ro F_bits_Mul64 G_bits_Mul64 := closedX_ro _ _ _
theorem F_bits_Mul64_run {a0 : AV} {a1 : AV} {v : AV} (ha : plains [a0, a1] = true) (hv : f_bits_Mul64 Try.prog t_bits_Mul64 d_bits_Mul64 NN (fun v g => cvt false g v) a0 a1 [] = some v) (h : Hp) : F_bits_Mul64 [a0, a1] h = some (v, h) := by
  have e : (R_bits_Mul64 (nrms [.o, .o] [a0, a1]) []).bind (fun (p : AV × Hp) => cvt false p.2 p.1) = some v := (R_bits_Mul64_eq (fun v g => cvt false g v) a0 a1 []).trans hv
  exact (closedX_bind (shr := [.o, .o]) ha e h).trans (congrArg (fun x => some (x, h)) (nrmR_rep 2 v))
theorem F_bits_Mul64_own {a0 : AV} {a1 : AV} {x0 : AV} {x1 : AV} {h : Hp} {v : AV} (ha : cvts false h [x0, x1] = some [a0, a1]) (hv : ∀ st, f_bits_Mul64 Try.prog t_bits_Mul64 d_bits_Mul64 NN (fun v g => cvt st g v) a0 a1 [] = some v) : F_bits_Mul64 [x0, x1] h = some (v, h) := by
  have e : ∀ st, (R_bits_Mul64 (nrms [.o, .o] [a0, a1]) []).bind (fun (p : AV × Hp) => cvt st p.2 p.1) = some v := fun st => (R_bits_Mul64_eq (fun v g => cvt st g v) a0 a1 []).trans (hv st)
  exact (closedX_ownB (shr := [.o, .o]) ha e).trans (congrArg (fun x => some (x, h)) (nrmR_rep 2 v))
/-! spile/proportion.product -/
noncomputable def t_proportion_product : Tab := (updF T0 86 F_bits_Mul64)
theorem t_proportion_product_ok : TSound Try.prog t_proportion_product := (TSound.upd TSound.zero F_bits_Mul64_ok)
@[simp] theorem t_proportion_product_86 : t_proportion_product 86 = some F_bits_Mul64 := rfl
noncomputable def d_proportion_product : DTab := D0
theorem d_proportion_product_ok : DSound Try.prog d_proportion_product := DSound.zero
noncomputable def R_proportion_product : Fun := runF Try.prog t_proportion_product d_proportion_product NN [0, 1, 4, 5, 6] Try.f77 2
theorem R_proportion_product_ok : CSound Try.prog 77 R_proportion_product := run_sound t_proportion_product_ok d_proportion_product_ok mixed Try.func77 (by kernel_rfl) NN
theorem R_proportion_product_eq {β : Type} (K : AV → Hp → Option β) (a0 : AV) (a1 : AV) (h : Hp) : (R_proportion_product [a0, a1] h).bind (fun p => K p.1 p.2) = f_proportion_product Try.prog t_proportion_product d_proportion_product NN K a0 a1 h := by
  rw [← f_proportion_product_run]; exact runF_bind rfl
noncomputable def F_proportion_product : Fun := closedX [.o, .o] [.o] R_proportion_product
theorem F_proportion_product_ok : CSound Try.prog 77 F_proportion_product := closedX_sound _ _ R_proportion_product_ok
noncomputable def G_proportion_product : DFun := closedXD [.o, .o] [.o] R_proportion_product
theorem G_proportion_product_ro : Ro F_proportion_product G_proportion_product := closedX_ro _ _ _
theorem F_proportion_product_run {a0 : AV} {a1 : AV} {v : AV} (ha : plains [a0, a1] = true) (hv : f_proportion_product Try.prog t_proportion_product d_proportion_product NN (fun v g => cvt false g v) a0 a1 [] = some v) (h : Hp) : F_proportion_product [a0, a1] h = some (v, h) := by
  have e : (R_proportion_product (nrms [.o, .o] [a0, a1]) []).bind (fun (p : AV × Hp) => cvt false p.2 p.1) = some v := (R_proportion_product_eq (fun v g => cvt false g v) a0 a1 []).trans hv
  exact (closedX_bind (shr := [.o]) ha e h).trans (congrArg (fun x => some (x, h)) (nrmR_rep 1 v))
theorem F_proportion_product_own {a0 : AV} {a1 : AV} {x0 : AV} {x1 : AV} {h : Hp} {v : AV} (ha : cvts false h [x0, x1] = some [a0, a1]) (hv : ∀ st, f_proportion_product Try.prog t_proportion_product d_proportion_product NN (fun v g => cvt st g v) a0 a1 [] = some v) : F_proportion_product [x0, x1] h = some (v, h) := by
  have e : ∀ st, (R_proportion_product (nrms [.o, .o] [a0, a1]) []).bind (fun (p : AV × Hp) => cvt st p.2 p.1) = some v := fun st => (R_proportion_product_eq (fun v g => cvt st g v) a0 a1 []).trans (hv st)
  exact (closedX_ownB (shr := [.o]) ha e).trans (congrArg (fun x => some (x, h)) (nrmR_rep 1 v))
/-! math/bits.Len64 -/
noncomputable def t_bits_Len64 : Tab := T0
theorem t_bits_Len64_ok : TSound Try.prog t_bits_Len64 := TSound.zero
noncomputable def d_bits_Len64 : DTab := D0
theorem d_bits_Len64_ok : DSound Try.prog d_bits_Len64 := DSound.zero
noncomputable def R_bits_Len64 : Fun := runF Try.prog t_bits_Len64 d_bits_Len64 NN [0, 2, 4, 8, 14] Try.f94 1
theorem R_bits_Len64_ok : CSound Try.prog 94 R_bits_Len64 := run_sound t_bits_Len64_ok d_bits_Len64_ok mixed Try.func94 (by kernel_rfl) NN
theorem R_bits_Len64_eq {β : Type} (K : AV → Hp → Option β) (a0 : AV) (h : Hp) : (R_bits_Len64 [a0] h).bind (fun p => K p.1 p.2) = f_bits_Len64 Try.prog t_bits_Len64 d_bits_Len64 NN K a0 h := by
  rw [← f_bits_Len64_run]; exact runF_bind rfl
noncomputable def F_bits_Len64 : Fun := closedX [.o] [.o] R_bits_Len64
theorem F_bits_Len64_ok : CSound Try.prog 94 F_bits_Len64 := closedX_sound _ _ R_bits_Len64_ok
noncomputable def G_bits_Len64 : DFun := closedXD [.o] [.o] R_bits_Len64
theorem G_bits_Len64_ro : Ro F_bits_Len64 G_bits_Len64 := closedX_ro _ _ _
theorem F_bits_Len64_run {a0 : AV} {v : AV} (ha : plains [a0] = true) (hv : f_bits_Len64 Try.prog t_bits_Len64 d_bits_Len64 NN (fun v g => cvt false g v) a0 [] = some v) (h : Hp) : F_bits_Len64 [a0] h = some (v, h) := by
  have e : (R_bits_Len64 (nrms [.o] [a0]) []).bind (fun (p : AV × Hp) => cvt false p.2 p.1) = some v := (R_bits_Len64_eq (fun v g => cvt false g v) a0 []).trans hv
  exact (closedX_bind (shr := [.o]) ha e h).trans (congrArg (fun x => some (x, h)) (nrmR_rep 1 v))
theorem F_bits_Len64_own {a0 : AV} {x0 : AV} {h : Hp} {v : AV} (ha : cvts false h [x0] = some [a0]) (hv : ∀ st, f_bits_Len64 Try.prog t_bits_Len64 d_bits_Len64 NN (fun v g => cvt st g v) a0 [] = some v) : F_bits_Len64 [x0] h = some (v, h) := by
  have e : ∀ st, (R_bits_Len64 (nrms [.o] [a0]) []).bind (fun (p : AV × Hp) => cvt st p.2 p.1) = some v := fun st => (R_bits_Len64_eq (fun v g => cvt st g v) a0 []).trans (hv st)
  exact (closedX_ownB (shr := [.o]) ha e).trans (congrArg (fun x => some (x, h)) (nrmR_rep 1 v))
/-! math/bits.LeadingZeros64 -/
noncomputable def t_bits_LeadingZeros64 : Tab := (updF T0 94 F_bits_Len64)
theorem t_bits_LeadingZeros64_ok : TSound Try.prog t_bits_LeadingZeros64 := (TSound.upd TSound.zero F_bits_Len64_ok)
@[simp] theorem t_bits_LeadingZeros64_94 : t_bits_LeadingZeros64 94 = some F_bits_Len64 := rfl
noncomputable def d_bits_LeadingZeros64 : DTab := D0
theorem d_bits_LeadingZeros64_ok : DSound Try.prog d_bits_LeadingZeros64 := DSound.zero
noncomputable def R_bits_LeadingZeros64 : Fun := runF Try.prog t_bits_LeadingZeros64 d_bits_LeadingZeros64 NN [0, 2] Try.f87 1
theorem R_bits_LeadingZeros64_ok : CSound Try.prog 87 R_bits_LeadingZeros64 := run_sound t_bits_LeadingZeros64_ok d_bits_LeadingZeros64_ok mixed Try.func87 (by kernel_rfl) NN
theorem R_bits_LeadingZeros64_eq {β : Type} (K : AV → Hp → Option β) (a0 : AV) (h : Hp) : (R_bits_LeadingZeros64 [a0] h).bind (fun p => K p.1 p.2) = f_bits_LeadingZeros64 Try.prog t_bits_LeadingZeros64 d_bits_LeadingZeros64 NN K a0 h := by
  rw [← f_bits_LeadingZeros64_run]; exact runF_bind rfl
noncomputable def F_bits_LeadingZeros64 : Fun := closedX [.o] [.o] R_bits_LeadingZeros64
theorem F_bits_LeadingZeros64_ok : CSound Try.prog 87 F_bits_LeadingZeros64 := closedX_sound _ _ R_bits_LeadingZeros64_ok
noncomputable def G_bits_LeadingZeros64 : DFun := closedXD [.o] [.o] R_bits_LeadingZeros64
theorem G_bits_LeadingZeros64_ro : Ro F_bits_LeadingZeros64 G_bits_LeadingZeros64 := closedX_ro _ _ _
theorem F_bits_LeadingZeros64_run {a0 : AV} {v : AV} (ha : plains [a0] = true) (hv : f_bits_LeadingZeros64 Try.prog t_bits_LeadingZeros64 d_bits_LeadingZeros64 NN (fun v g => cvt false g v) a0 [] = some v) (h : Hp) : F_bits_LeadingZeros64 [a0] h = some (v, h) := by
  have e : (R_bits_LeadingZeros64 (nrms [.o] [a0]) []).bind (fun (p : AV × Hp) => cvt false p.2 p.1) = some v := (R_bits_LeadingZeros64_eq (fun v g => cvt false g v) a0 []).trans hv
  exact (closedX_bind (shr := [.o]) ha e h).trans (congrArg (fun x => some (x, h)) (nrmR_rep 1 v))
theorem F_bits_LeadingZeros64_own {a0 : AV} {x0 : AV} {h : Hp} {v : AV} (ha : cvts false h [x0] = some [a0]) (hv : ∀ st, f_bits_LeadingZeros64 Try.prog t_bits_LeadingZeros64 d_bits_LeadingZeros64 NN (fun v g => cvt st g v) a0 [] = some v) : F_bits_LeadingZeros64 [x0] h = some (v, h) := by
  have e : ∀ st, (R_bits_LeadingZeros64 (nrms [.o] [a0]) []).bind (fun (p : AV × Hp) => cvt st p.2 p.1) = some v := fun st => (R_bits_LeadingZeros64_eq (fun v g => cvt st g v) a0 []).trans (hv st)
  exact (closedX_ownB (shr := [.o]) ha e).trans (congrArg (fun x => some (x, h)) (nrmR_rep 1 v))
/-! math/bits.Div64 -/
noncomputable def t_bits_Div64 : Tab := (updF T0 87 F_bits_LeadingZeros64)
theorem t_bits_Div64_ok : TSound Try.prog t_bits_Div64 := (TSound.upd TSound.zero F_bits_LeadingZeros64_ok)
@[simp] theorem t_bits_Div64_87 : t_bits_Div64 87 = some F_bits_LeadingZeros64 := rfl
noncomputable def d_bits_Div64 : DTab := D0
theorem d_bits_Div64_ok : DSound Try.prog d_bits_Div64 := DSound.zero
noncomputable def R_bits_Div64 : Fun := runF Try.prog t_bits_Div64 d_bits_Div64 NN [0, 1, 2, 6, 7, 8, 9, 10, 11, 12, 13, 14, 15, 16, 17, 18, 20, 24, 27, 78, 85, 113, 120] Try.f78 3
theorem R_bits_Div64_ok : CSound Try.prog 78 R_bits_Div64 := run_sound t_bits_Div64_ok d_bits_Div64_ok mixed Try.func78 (by kernel_rfl) NN
theorem R_bits_Div64_eq {β : Type} (K : AV → Hp → Option β) (a0 : AV) (a1 : AV) (a2 : AV) (h : Hp) : (R_bits_Div64 [a0, a1, a2] h).bind (fun p => K p.1 p.2) = f_bits_Div64 Try.prog t_bits_Div64 d_bits_Div64 NN K a0 a1 a2 h := by
  rw [← f_bits_Div64_run]; exact runF_bind rfl
noncomputable def F_bits_Div64 : Fun := closedX [.o, .o, .o] [.o, .o] R_bits_Div64
theorem F_bits_Div64_ok : CSound Try.prog 78 F_bits_Div64 := closedX_sound _ _ R_bits_Div64_ok
noncomputable def G_bits_Div64 : DFun := closedXD [.o, .o, .o] [.o, .o] R_bits_Div64
theorem G_bits_Div64_ro : Ro F_bits_Div64 G_bits_Div64 := closedX_ro _ _ _
theorem F_bits_Div64_run {a0 : AV} {a1 : AV} {a2 : AV} {v : AV} (ha : plains [a0, a1, a2] = true) (hv : f_bits_Div64 Try.prog t_bits_Div64 d_bits_Div64 NN (fun v g => cvt false g v) a0 a1 a2 [] = some v) (h : Hp) : F_bits_Div64 [a0, a1, a2] h = some (v, h) := by
  have e : (R_bits_Div64 (nrms [.o, .o, .o] [a0, a1, a2]) []).bind (fun (p : AV × Hp) => cvt false p.2 p.1) = some v := (R_bits_Div64_eq (fun v g => cvt false g v) a0 a1 a2 []).trans hv
  exact (closedX_bind (shr := [.o, .o]) ha e h).trans (congrArg (fun x => some (x, h)) (nrmR_rep 2 v))
theorem F_bits_Div64_own {a0 : AV} {a1 : AV} {a2 : AV} {x0 : AV} {x1 : AV} {x2 : AV} {h : Hp} {v : AV} (ha : cvts false h [x0, x1, x2] = some [a0, a1, a2]) (hv : ∀ st, f_bits_Div64 Try.prog t_bits_Div64 d_bits_Div64 NN (fun v g => cvt st g v) a0 a1 a2 [] = some v) : F_bits_Div64 [x0, x1, x2] h = some (v, h) := by
  have e : ∀ st, (R_bits_Div64 (nrms [.o, .o, .o] [a0, a1, a2]) []).bind (fun (p : AV × Hp) => cvt st p.2 p.1) = some v := fun st => (R_bits_Div64_eq (fun v g => cvt st g v) a0 a1 a2 []).trans (hv st)
  exact (closedX_ownB (shr := [.o, .o]) ha e).trans (congrArg (fun x => some (x, h)) (nrmR_rep 2 v))
/-! spile/proportion.divided -/
noncomputable def t_proportion_divided : Tab := (updF (updF T0 77 F_proportion_product) 78 F_bits_Div64)
theorem t_proportion_divided_ok : TSound Try.prog t_proportion_divided := (TSound.upd (TSound.upd TSound.zero F_proportion_product_ok) F_bits_Div64_ok)
@[simp] theorem t_proportion_divided_77 : t_proportion_divided 77 = some F_proportion_product := rfl
@[simp] theorem t_proportion_divided_78 : t_proportion_divided 78 = some F_bits_Div64 := rfl
noncomputable def d_proportion_divided : DTab := D0
theorem d_proportion_divided_ok : DSound Try.prog d_proportion_divided := DSound.zero
noncomputable def R_proportion_divided : Fun := runF Try.prog t_proportion_divided d_proportion_divided NN [0, 1, 2, 6, 7, 8, 9, 10, 11, 19, 31] Try.f70 3
theorem R_proportion_divided_ok : CSound Try.prog 70 R_proportion_divided := run_sound t_proportion_divided_ok d_proportion_divided_ok mixed Try.func70 (by kernel_rfl) NN
theorem R_proportion_divided_eq {β : Type} (K : AV → Hp → Option β) (a0 : AV) (a1 : AV) (a2 : AV) (h : Hp) : (R_proportion_divided [a0, a1, a2] h).bind (fun p => K p.1 p.2) = f_proportion_divided Try.prog t_proportion_divided d_proportion_divided NN K a0 a1 a2 h := by
  rw [← f_proportion_divided_run]; exact runF_bind rfl
noncomputable def F_proportion_divided : Fun := closedX [.o, .o, .o] [.o, .o, .o] R_proportion_divided
theorem F_proportion_divided_ok : CSound Try.prog 70 F_proportion_divided := closedX_sound _ _ R_proportion_divided_ok
noncomputable def G_proportion_divided : DFun := closedXD [.o, .o, .o] [.o, .o, .o] R_proportion_divided
theorem G_proportion_divided_ro : Ro F_proportion_divided G_proportion_divided := closedX_ro _ _ _
theorem F_proportion_divided_run {a0 : AV} {a1 : AV} {a2 : AV} {v : AV} (ha : plains [a0, a1, a2] = true) (hv : f_proportion_divided Try.prog t_proportion_divided d_proportion_divided NN (fun v g => cvt false g v) a0 a1 a2 [] = some v) (h : Hp) : F_proportion_divided [a0, a1, a2] h = some (v, h) := by
  have e : (R_proportion_divided (nrms [.o, .o, .o] [a0, a1, a2]) []).bind (fun (p : AV × Hp) => cvt false p.2 p.1) = some v := (R_proportion_divided_eq (fun v g => cvt false g v) a0 a1 a2 []).trans hv
  exact (closedX_bind (shr := [.o, .o, .o]) ha e h).trans (congrArg (fun x => some (x, h)) (nrmR_rep 3 v))
theorem F_proportion_divided_own {a0 : AV} {a1 : AV} {a2 : AV} {x0 : AV} {x1 : AV} {x2 : AV} {h : Hp} {v : AV} (ha : cvts false h [x0, x1, x2] = some [a0, a1, a2]) (hv : ∀ st, f_proportion_divided Try.prog t_proportion_divided d_proportion_divided NN (fun v g => cvt st g v) a0 a1 a2 [] = some v) : F_proportion_divided [x0, x1, x2] h = some (v, h) := by
  have e : ∀ st, (R_proportion_divided (nrms [.o, .o, .o] [a0, a1, a2]) []).bind (fun (p : AV × Hp) => cvt st p.2 p.1) = some v := fun st => (R_proportion_divided_eq (fun v g => cvt st g v) a0 a1 a2 []).trans (hv st)
  exact (closedX_ownB (shr := [.o, .o, .o]) ha e).trans (congrArg (fun x => some (x, h)) (nrmR_rep 3 v))
/-! spile/proportion.Of -/
noncomputable def t_proportion_Of : Tab := (updF (updF T0 69 F_proportion_amounts) 70 F_proportion_divided)
theorem t_proportion_Of_ok : TSound Try.prog t_proportion_Of := (TSound.upd (TSound.upd TSound.zero F_proportion_amounts_ok) F_proportion_divided_ok)
@[simp] theorem t_proportion_Of_69 : t_proportion_Of 69 = some F_proportion_amounts := rfl
@[simp] theorem t_proportion_Of_70 : t_proportion_Of 70 = some F_proportion_divided := rfl
noncomputable def d_proportion_Of : DTab := D0
theorem d_proportion_Of_ok : DSound Try.prog d_proportion_Of := DSound.zero
noncomputable def R_proportion_Of : Fun := runF Try.prog t_proportion_Of d_proportion_Of NN [0, 1, 2, 6, 7, 8, 9, 10, 11, 17, 19, 29] Try.f47 3
theorem R_proportion_Of_ok : CSound Try.prog 47 R_proportion_Of := run_sound t_proportion_Of_ok d_proportion_Of_ok mixed Try.func47 (by kernel_rfl) NN
theorem R_proportion_Of_eq {β : Type} (K : AV → Hp → Option β) (a0 : AV) (a1 : AV) (a2 : AV) (h : Hp) : (R_proportion_Of [a0, a1, a2] h).bind (fun p => K p.1 p.2) = f_proportion_Of Try.prog t_proportion_Of d_proportion_Of NN K a0 a1 a2 h := by
  rw [← f_proportion_Of_run]; exact runF_bind rfl
noncomputable def F_proportion_Of : Fun := closedX [.o, .o, .o] [.o, .o, .o] R_proportion_Of
theorem F_proportion_Of_ok : CSound Try.prog 47 F_proportion_Of := closedX_sound _ _ R_proportion_Of_ok
noncomputable def G_proportion_Of : DFun := closedXD [.o, .o, .o] [.o, .o, .o] R_proportion_Of
theorem G_proportion_Of_ro : Ro F_proportion_Of G_proportion_Of := closedX_ro _ _ _
theorem F_proportion_Of_run {a0 : AV} {a1 : AV} {a2 : AV} {v : AV} (ha : plains [a0, a1, a2] = true) (hv : f_proportion_Of Try.prog t_proportion_Of d_proportion_Of NN (fun v g => cvt false g v) a0 a1 a2 [] = some v) (h : Hp) : F_proportion_Of [a0, a1, a2] h = some (v, h) := by
  have e : (R_proportion_Of (nrms [.o, .o, .o] [a0, a1, a2]) []).bind (fun (p : AV × Hp) => cvt false p.2 p.1) = some v := (R_proportion_Of_eq (fun v g => cvt false g v) a0 a1 a2 []).trans hv
  exact (closedX_bind (shr := [.o, .o, .o]) ha e h).trans (congrArg (fun x => some (x, h)) (nrmR_rep 3 v))
theorem F_proportion_Of_own {a0 : AV} {a1 : AV} {a2 : AV} {x0 : AV} {x1 : AV} {x2 : AV} {h : Hp} {v : AV} (ha : cvts false h [x0, x1, x2] = some [a0, a1, a2]) (hv : ∀ st, f_proportion_Of Try.prog t_proportion_Of d_proportion_Of NN (fun v g => cvt st g v) a0 a1 a2 [] = some v) : F_proportion_Of [x0, x1, x2] h = some (v, h) := by
  have e : ∀ st, (R_proportion_Of (nrms [.o, .o, .o] [a0, a1, a2]) []).bind (fun (p : AV × Hp) => cvt st p.2 p.1) = some v := fun st => (R_proportion_Of_eq (fun v g => cvt st g v) a0 a1 a2 []).trans (hv st)
  exact (closedX_ownB (shr := [.o, .o, .o]) ha e).trans (congrArg (fun x => some (x, h)) (nrmR_rep 3 v))
/-! spile/calendar.is -/
noncomputable def t_calendar_is : Tab := T0
theorem t_calendar_is_ok : TSound Try.prog t_calendar_is := TSound.zero
noncomputable def d_calendar_is : DTab := D0
theorem d_calendar_is_ok : DSound Try.prog d_calendar_is := DSound.zero
noncomputable def R_calendar_is : Fun := runF Try.prog t_calendar_is d_calendar_is NN [0, 2] Try.f88 1
theorem R_calendar_is_ok : CSound Try.prog 88 R_calendar_is := run_sound t_calendar_is_ok d_calendar_is_ok mixed Try.func88 (by kernel_rfl) NN
theorem R_calendar_is_eq {β : Type} (K : AV → Hp → Option β) (a0 : AV) (h : Hp) : (R_calendar_is [a0] h).bind (fun p => K p.1 p.2) = f_calendar_is Try.prog t_calendar_is d_calendar_is NN K a0 h := by
  rw [← f_calendar_is_run]; exact runF_bind rfl
noncomputable def F_calendar_is : Fun := closedX [.o] [.o] R_calendar_is
theorem F_calendar_is_ok : CSound Try.prog 88 F_calendar_is := closedX_sound _ _ R_calendar_is_ok
noncomputable def G_calendar_is : DFun := closedXD [.o] [.o] R_calendar_is
theorem G_calendar_is_ro : Ro F_calendar_is G_calendar_is := closedX_ro _ _ _
theorem F_calendar_is_run {a0 : AV} {v : AV} (ha : plains [a0] = true) (hv : f_calendar_is Try.prog t_calendar_is d_calendar_is NN (fun v g => cvt false g v) a0 [] = some v) (h : Hp) : F_calendar_is [a0] h = some (v, h) := by
  have e : (R_calendar_is (nrms [.o] [a0]) []).bind (fun (p : AV × Hp) => cvt false p.2 p.1) = some v := (R_calendar_is_eq (fun v g => cvt false g v) a0 []).trans hv
  exact (closedX_bind (shr := [.o]) ha e h).trans (congrArg (fun x => some (x, h)) (nrmR_rep 1 v))
theorem F_calendar_is_own {a0 : AV} {x0 : AV} {h : Hp} {v : AV} (ha : cvts false h [x0] = some [a0]) (hv : ∀ st, f_calendar_is Try.prog t_calendar_is d_calendar_is NN (fun v g => cvt st g v) a0 [] = some v) : F_calendar_is [x0] h = some (v, h) := by
  have e : ∀ st, (R_calendar_is (nrms [.o] [a0]) []).bind (fun (p : AV × Hp) => cvt st p.2 p.1) = some v := fun st => (R_calendar_is_eq (fun v g => cvt st g v) a0 []).trans (hv st)
  exact (closedX_ownB (shr := [.o]) ha e).trans (congrArg (fun x => some (x, h)) (nrmR_rep 1 v))
/-! spile/calendar.leap -/
noncomputable def t_calendar_leap : Tab := T0
theorem t_calendar_leap_ok : TSound Try.prog t_calendar_leap := TSound.zero
noncomputable def d_calendar_leap : DTab := D0
theorem d_calendar_leap_ok : DSound Try.prog d_calendar_leap := DSound.zero
noncomputable def R_calendar_leap : Fun := runF Try.prog t_calendar_leap d_calendar_leap NN [0, 2] Try.f96 1
theorem R_calendar_leap_ok : CSound Try.prog 96 R_calendar_leap := run_sound t_calendar_leap_ok d_calendar_leap_ok mixed Try.func96 (by kernel_rfl) NN
theorem R_calendar_leap_eq {β : Type} (K : AV → Hp → Option β) (a0 : AV) (h : Hp) : (R_calendar_leap [a0] h).bind (fun p => K p.1 p.2) = f_calendar_leap Try.prog t_calendar_leap d_calendar_leap NN K a0 h := by
  rw [← f_calendar_leap_run]; exact runF_bind rfl
noncomputable def F_calendar_leap : Fun := closedX [.o] [.o] R_calendar_leap
theorem F_calendar_leap_ok : CSound Try.prog 96 F_calendar_leap := closedX_sound _ _ R_calendar_leap_ok
noncomputable def G_calendar_leap : DFun := closedXD [.o] [.o] R_calendar_leap
theorem G_calendar_leap_ro : Ro F_calendar_leap G_calendar_leap := closedX_ro _ _ _
theorem F_calendar_leap_run {a0 : AV} {v : AV} (ha : plains [a0] = true) (hv : f_calendar_leap Try.prog t_calendar_leap d_calendar_leap NN (fun v g => cvt false g v) a0 [] = some v) (h : Hp) : F_calendar_leap [a0] h = some (v, h) := by
  have e : (R_calendar_leap (nrms [.o] [a0]) []).bind (fun (p : AV × Hp) => cvt false p.2 p.1) = some v := (R_calendar_leap_eq (fun v g => cvt false g v) a0 []).trans hv
  exact (closedX_bind (shr := [.o]) ha e h).trans (congrArg (fun x => some (x, h)) (nrmR_rep 1 v))
theorem F_calendar_leap_own {a0 : AV} {x0 : AV} {h : Hp} {v : AV} (ha : cvts false h [x0] = some [a0]) (hv : ∀ st, f_calendar_leap Try.prog t_calendar_leap d_calendar_leap NN (fun v g => cvt st g v) a0 [] = some v) : F_calendar_leap [x0] h = some (v, h) := by
  have e : ∀ st, (R_calendar_leap (nrms [.o] [a0]) []).bind (fun (p : AV × Hp) => cvt st p.2 p.1) = some v := fun st => (R_calendar_leap_eq (fun v g => cvt st g v) a0 []).trans (hv st)
  exact (closedX_ownB (shr := [.o]) ha e).trans (congrArg (fun x => some (x, h)) (nrmR_rep 1 v))
/-! spile/calendar.length -/
noncomputable def t_calendar_length : Tab := (updF T0 96 F_calendar_leap)
theorem t_calendar_length_ok : TSound Try.prog t_calendar_length := (TSound.upd TSound.zero F_calendar_leap_ok)
@[simp] theorem t_calendar_length_96 : t_calendar_length 96 = some F_calendar_leap := rfl
noncomputable def d_calendar_length : DTab := D0
theorem d_calendar_length_ok : DSound Try.prog d_calendar_length := DSound.zero
noncomputable def R_calendar_length : Fun := runF Try.prog t_calendar_length d_calendar_length NN [0, 1, 4, 5, 12] Try.f90 2
theorem R_calendar_length_ok : CSound Try.prog 90 R_calendar_length := run_sound t_calendar_length_ok d_calendar_length_ok mixed Try.func90 (by kernel_rfl) NN
theorem R_calendar_length_eq {β : Type} (K : AV → Hp → Option β) (a0 : AV) (a1 : AV) (h : Hp) : (R_calendar_length [a0, a1] h).bind (fun p => K p.1 p.2) = f_calendar_length Try.prog t_calendar_length d_calendar_length NN K a0 a1 h := by
  rw [← f_calendar_length_run]; exact runF_bind rfl
noncomputable def F_calendar_length : Fun := closedX [.o, .o] [.o] R_calendar_length
theorem F_calendar_length_ok : CSound Try.prog 90 F_calendar_length := closedX_sound _ _ R_calendar_length_ok
noncomputable def G_calendar_length : DFun := closedXD [.o, .o] [.o] R_calendar_length
theorem G_calendar_length_ro : Ro F_calendar_length G_calendar_length := closedX_ro _ _ _
theorem F_calendar_length_run {a0 : AV} {a1 : AV} {v : AV} (ha : plains [a0, a1] = true) (hv : f_calendar_length Try.prog t_calendar_length d_calendar_length NN (fun v g => cvt false g v) a0 a1 [] = some v) (h : Hp) : F_calendar_length [a0, a1] h = some (v, h) := by
  have e : (R_calendar_length (nrms [.o, .o] [a0, a1]) []).bind (fun (p : AV × Hp) => cvt false p.2 p.1) = some v := (R_calendar_length_eq (fun v g => cvt false g v) a0 a1 []).trans hv
  exact (closedX_bind (shr := [.o]) ha e h).trans (congrArg (fun x => some (x, h)) (nrmR_rep 1 v))
theorem F_calendar_length_own {a0 : AV} {a1 : AV} {x0 : AV} {x1 : AV} {h : Hp} {v : AV} (ha : cvts false h [x0, x1] = some [a0, a1]) (hv : ∀ st, f_calendar_length Try.prog t_calendar_length d_calendar_length NN (fun v g => cvt st g v) a0 a1 [] = some v) : F_calendar_length [x0, x1] h = some (v, h) := by
  have e : ∀ st, (R_calendar_length (nrms [.o, .o] [a0, a1]) []).bind (fun (p : AV × Hp) => cvt st p.2 p.1) = some v := fun st => (R_calendar_length_eq (fun v g => cvt st g v) a0 a1 []).trans (hv st)
  exact (closedX_ownB (shr := [.o]) ha e).trans (congrArg (fun x => some (x, h)) (nrmR_rep 1 v))
/-! spile/calendar.before$1 -/
noncomputable def t_calendar_before_1 : Tab := T0
theorem t_calendar_before_1_ok : TSound Try.prog t_calendar_before_1 := TSound.zero
noncomputable def d_calendar_before_1 : DTab := D0
theorem d_calendar_before_1_ok : DSound Try.prog d_calendar_before_1 := DSound.zero
noncomputable def R_calendar_before_1 : Fun := runF Try.prog t_calendar_before_1 d_calendar_before_1 NN [0, 2] Try.f97 1
theorem R_calendar_before_1_ok : CSound Try.prog 97 R_calendar_before_1 := run_sound t_calendar_before_1_ok d_calendar_before_1_ok mixed Try.func97 (by kernel_rfl) NN
theorem R_calendar_before_1_eq {β : Type} (K : AV → Hp → Option β) (a0 : AV) (h : Hp) : (R_calendar_before_1 [a0] h).bind (fun p => K p.1 p.2) = f_calendar_before_1 Try.prog t_calendar_before_1 d_calendar_before_1 NN K a0 h := by
  rw [← f_calendar_before_1_run]; exact runF_bind rfl
noncomputable def F_calendar_before_1 : Fun := closedX [.o] [.o] R_calendar_before_1
theorem F_calendar_before_1_ok : CSound Try.prog 97 F_calendar_before_1 := closedX_sound _ _ R_calendar_before_1_ok
noncomputable def G_calendar_before_1 : DFun := closedXD [.o] [.o] R_calendar_before_1
theorem G_calendar_before_1_ro : Ro F_calendar_before_1 G_calendar_before_1 := closedX_ro _ _ _
theorem F_calendar_before_1_run {a0 : AV} {v : AV} (ha : plains [a0] = true) (hv : f_calendar_before_1 Try.prog t_calendar_before_1 d_calendar_before_1 NN (fun v g => cvt false g v) a0 [] = some v) (h : Hp) : F_calendar_before_1 [a0] h = some (v, h) := by
  have e : (R_calendar_before_1 (nrms [.o] [a0]) []).bind (fun (p : AV × Hp) => cvt false p.2 p.1) = some v := (R_calendar_before_1_eq (fun v g => cvt false g v) a0 []).trans hv
  exact (closedX_bind (shr := [.o]) ha e h).trans (congrArg (fun x => some (x, h)) (nrmR_rep 1 v))
theorem F_calendar_before_1_own {a0 : AV} {x0 : AV} {h : Hp} {v : AV} (ha : cvts false h [x0] = some [a0]) (hv : ∀ st, f_calendar_before_1 Try.prog t_calendar_before_1 d_calendar_before_1 NN (fun v g => cvt st g v) a0 [] = some v) : F_calendar_before_1 [x0] h = some (v, h) := by
  have e : ∀ st, (R_calendar_before_1 (nrms [.o] [a0]) []).bind (fun (p : AV × Hp) => cvt st p.2 p.1) = some v := fun st => (R_calendar_before_1_eq (fun v g => cvt st g v) a0 []).trans (hv st)
  exact (closedX_ownB (shr := [.o]) ha e).trans (congrArg (fun x => some (x, h)) (nrmR_rep 1 v))
/-! spile/calendar.before -/
noncomputable def t_calendar_before : Tab := (updF T0 97 F_calendar_before_1)
theorem t_calendar_before_ok : TSound Try.prog t_calendar_before := (TSound.upd TSound.zero F_calendar_before_1_ok)
@[simp] theorem t_calendar_before_97 : t_calendar_before 97 = some F_calendar_before_1 := rfl
noncomputable def d_calendar_before : DTab := D0
theorem d_calendar_before_ok : DSound Try.prog d_calendar_before := DSound.zero
noncomputable def R_calendar_before : Fun := runF Try.prog t_calendar_before d_calendar_before NN [0, 2, 3] Try.f95 1
theorem R_calendar_before_ok : CSound Try.prog 95 R_calendar_before := run_sound t_calendar_before_ok d_calendar_before_ok mixed Try.func95 (by kernel_rfl) NN
theorem R_calendar_before_eq {β : Type} (K : AV → Hp → Option β) (a0 : AV) (h : Hp) : (R_calendar_before [a0] h).bind (fun p => K p.1 p.2) = f_calendar_before Try.prog t_calendar_before d_calendar_before NN K a0 h := by
  rw [← f_calendar_before_run]; exact runF_bind rfl
noncomputable def F_calendar_before : Fun := closedX [.o] [.o] R_calendar_before
theorem F_calendar_before_ok : CSound Try.prog 95 F_calendar_before := closedX_sound _ _ R_calendar_before_ok
noncomputable def G_calendar_before : DFun := closedXD [.o] [.o] R_calendar_before
theorem G_calendar_before_ro : Ro F_calendar_before G_calendar_before := closedX_ro _ _ _
theorem F_calendar_before_run {a0 : AV} {v : AV} (ha : plains [a0] = true) (hv : f_calendar_before Try.prog t_calendar_before d_calendar_before NN (fun v g => cvt false g v) a0 [] = some v) (h : Hp) : F_calendar_before [a0] h = some (v, h) := by
  have e : (R_calendar_before (nrms [.o] [a0]) []).bind (fun (p : AV × Hp) => cvt false p.2 p.1) = some v := (R_calendar_before_eq (fun v g => cvt false g v) a0 []).trans hv
  exact (closedX_bind (shr := [.o]) ha e h).trans (congrArg (fun x => some (x, h)) (nrmR_rep 1 v))
theorem F_calendar_before_own {a0 : AV} {x0 : AV} {h : Hp} {v : AV} (ha : cvts false h [x0] = some [a0]) (hv : ∀ st, f_calendar_before Try.prog t_calendar_before d_calendar_before NN (fun v g => cvt st g v) a0 [] = some v) : F_calendar_before [x0] h = some (v, h) := by
  have e : ∀ st, (R_calendar_before (nrms [.o] [a0]) []).bind (fun (p : AV × Hp) => cvt st p.2 p.1) = some v := fun st => (R_calendar_before_eq (fun v g => cvt st g v) a0 []).trans (hv st)
  exact (closedX_ownB (shr := [.o]) ha e).trans (congrArg (fun x => some (x, h)) (nrmR_rep 1 v))
/-! spile/calendar.date -/
noncomputable def t_calendar_date : Tab := (updF (updF T0 90 F_calendar_length) 95 F_calendar_before)
theorem t_calendar_date_ok : TSound Try.prog t_calendar_date := (TSound.upd (TSound.upd TSound.zero F_calendar_length_ok) F_calendar_before_ok)
@[simp] theorem t_calendar_date_90 : t_calendar_date 90 = some F_calendar_length := rfl
@[simp] theorem t_calendar_date_95 : t_calendar_date 95 = some F_calendar_before := rfl
noncomputable def d_calendar_date : DTab := D0
theorem d_calendar_date_ok : DSound Try.prog d_calendar_date := DSound.zero
noncomputable def R_calendar_date : Fun := runF Try.prog t_calendar_date d_calendar_date NN [0, 2, 3, 13, 29] Try.f89 1
theorem R_calendar_date_ok : CSound Try.prog 89 R_calendar_date := run_sound t_calendar_date_ok d_calendar_date_ok mixed Try.func89 (by kernel_rfl) NN
theorem R_calendar_date_eq {β : Type} (K : AV → Hp → Option β) (a0 : AV) (h : Hp) : (R_calendar_date [a0] h).bind (fun p => K p.1 p.2) = f_calendar_date Try.prog t_calendar_date d_calendar_date NN K a0 h := by
  rw [← f_calendar_date_run]; exact runF_bind rfl
noncomputable def F_calendar_date : Fun := closedX [.o] [.o] R_calendar_date
theorem F_calendar_date_ok : CSound Try.prog 89 F_calendar_date := closedX_sound _ _ R_calendar_date_ok
noncomputable def G_calendar_date : DFun := closedXD [.o] [.o] R_calendar_date
theorem G_calendar_date_ro : Ro F_calendar_date G_calendar_date := closedX_ro _ _ _
theorem F_calendar_date_run {a0 : AV} {v : AV} (ha : plains [a0] = true) (hv : f_calendar_date Try.prog t_calendar_date d_calendar_date NN (fun v g => cvt false g v) a0 [] = some v) (h : Hp) : F_calendar_date [a0] h = some (v, h) := by
  have e : (R_calendar_date (nrms [.o] [a0]) []).bind (fun (p : AV × Hp) => cvt false p.2 p.1) = some v := (R_calendar_date_eq (fun v g => cvt false g v) a0 []).trans hv
  exact (closedX_bind (shr := [.o]) ha e h).trans (congrArg (fun x => some (x, h)) (nrmR_rep 1 v))
theorem F_calendar_date_own {a0 : AV} {x0 : AV} {h : Hp} {v : AV} (ha : cvts false h [x0] = some [a0]) (hv : ∀ st, f_calendar_date Try.prog t_calendar_date d_calendar_date NN (fun v g => cvt st g v) a0 [] = some v) : F_calendar_date [x0] h = some (v, h) := by
  have e : ∀ st, (R_calendar_date (nrms [.o] [a0]) []).bind (fun (p : AV × Hp) => cvt st p.2 p.1) = some v := fun st => (R_calendar_date_eq (fun v g => cvt st g v) a0 []).trans (hv st)
  exact (closedX_ownB (shr := [.o]) ha e).trans (congrArg (fun x => some (x, h)) (nrmR_rep 1 v))
/-! spile/calendar.Date -/
noncomputable def t_calendar_Date : Tab := (updF (updF T0 88 F_calendar_is) 89 F_calendar_date)
theorem t_calendar_Date_ok : TSound Try.prog t_calendar_Date := (TSound.upd (TSound.upd TSound.zero F_calendar_is_ok) F_calendar_date_ok)
@[simp] theorem t_calendar_Date_88 : t_calendar_Date 88 = some F_calendar_is := rfl
@[simp] theorem t_calendar_Date_89 : t_calendar_Date 89 = some F_calendar_date := rfl
noncomputable def d_calendar_Date : DTab := D0
theorem d_calendar_Date_ok : DSound Try.prog d_calendar_Date := DSound.zero
noncomputable def R_calendar_Date : Fun := runF Try.prog t_calendar_Date d_calendar_Date NN [0, 2, 3, 6] Try.f79 1
theorem R_calendar_Date_ok : CSound Try.prog 79 R_calendar_Date := run_sound t_calendar_Date_ok d_calendar_Date_ok mixed Try.func79 (by kernel_rfl) NN
theorem R_calendar_Date_eq {β : Type} (K : AV → Hp → Option β) (a0 : AV) (h : Hp) : (R_calendar_Date [a0] h).bind (fun p => K p.1 p.2) = f_calendar_Date Try.prog t_calendar_Date d_calendar_Date NN K a0 h := by
  rw [← f_calendar_Date_run]; exact runF_bind rfl
noncomputable def F_calendar_Date : Fun := closedX [.o] [.o, .o] R_calendar_Date
theorem F_calendar_Date_ok : CSound Try.prog 79 F_calendar_Date := closedX_sound _ _ R_calendar_Date_ok
noncomputable def G_calendar_Date : DFun := closedXD [.o] [.o, .o] R_calendar_Date
theorem G_calendar_Date_ro : Ro F_calendar_Date G_calendar_Date := closedX_ro _ _ _
theorem F_calendar_Date_run {a0 : AV} {v : AV} (ha : plains [a0] = true) (hv : f_calendar_Date Try.prog t_calendar_Date d_calendar_Date NN (fun v g => cvt false g v) a0 [] = some v) (h : Hp) : F_calendar_Date [a0] h = some (v, h) := by
  have e : (R_calendar_Date (nrms [.o] [a0]) []).bind (fun (p : AV × Hp) => cvt false p.2 p.1) = some v := (R_calendar_Date_eq (fun v g => cvt false g v) a0 []).trans hv
  exact (closedX_bind (shr := [.o, .o]) ha e h).trans (congrArg (fun x => some (x, h)) (nrmR_rep 2 v))
theorem F_calendar_Date_own {a0 : AV} {x0 : AV} {h : Hp} {v : AV} (ha : cvts false h [x0] = some [a0]) (hv : ∀ st, f_calendar_Date Try.prog t_calendar_Date d_calendar_Date NN (fun v g => cvt st g v) a0 [] = some v) : F_calendar_Date [x0] h = some (v, h) := by
  have e : ∀ st, (R_calendar_Date (nrms [.o] [a0]) []).bind (fun (p : AV × Hp) => cvt st p.2 p.1) = some v := fun st => (R_calendar_Date_eq (fun v g => cvt st g v) a0 []).trans (hv st)
  exact (closedX_ownB (shr := [.o, .o]) ha e).trans (congrArg (fun x => some (x, h)) (nrmR_rep 2 v))
/-! spile/calendar.number -/
noncomputable def t_calendar_number : Tab := (updF (updF T0 90 F_calendar_length) 95 F_calendar_before)
theorem t_calendar_number_ok : TSound Try.prog t_calendar_number := (TSound.upd (TSound.upd TSound.zero F_calendar_length_ok) F_calendar_before_ok)
@[simp] theorem t_calendar_number_90 : t_calendar_number 90 = some F_calendar_length := rfl
@[simp] theorem t_calendar_number_95 : t_calendar_number 95 = some F_calendar_before := rfl
noncomputable def d_calendar_number : DTab := (updD D0 95 G_calendar_before)
theorem d_calendar_number_ok : DSound Try.prog d_calendar_number := (DSound.ro DSound.zero G_calendar_before_ro F_calendar_before_ok)
@[simp] theorem d_calendar_number_95 : d_calendar_number 95 = some G_calendar_before := rfl
noncomputable def R_calendar_number : Fun := runF Try.prog t_calendar_number d_calendar_number NN [0, 1, 2, 3, 4, 15] Try.f91 1
theorem R_calendar_number_ok : CSound Try.prog 91 R_calendar_number := run_sound t_calendar_number_ok d_calendar_number_ok mixed Try.func91 (by kernel_rfl) NN
theorem R_calendar_number_eq {β : Type} (K : AV → Hp → Option β) (a0 : AV) (h : Hp) : (R_calendar_number [a0] h).bind (fun p => K p.1 p.2) = f_calendar_number Try.prog t_calendar_number d_calendar_number NN K a0 h := by
  rw [← f_calendar_number_run]; exact runF_bind rfl
noncomputable def F_calendar_number : Fun := closedX [.o] [.o] R_calendar_number
theorem F_calendar_number_ok : CSound Try.prog 91 F_calendar_number := closedX_sound _ _ R_calendar_number_ok
noncomputable def G_calendar_number : DFun := closedXD [.o] [.o] R_calendar_number
theorem G_calendar_number_ro : Ro F_calendar_number G_calendar_number := closedX_ro _ _ _
theorem F_calendar_number_run {a0 : AV} {v : AV} (ha : plains [a0] = true) (hv : f_calendar_number Try.prog t_calendar_number d_calendar_number NN (fun v g => cvt false g v) a0 [] = some v) (h : Hp) : F_calendar_number [a0] h = some (v, h) := by
  have e : (R_calendar_number (nrms [.o] [a0]) []).bind (fun (p : AV × Hp) => cvt false p.2 p.1) = some v := (R_calendar_number_eq (fun v g => cvt false g v) a0 []).trans hv
  exact (closedX_bind (shr := [.o]) ha e h).trans (congrArg (fun x => some (x, h)) (nrmR_rep 1 v))
theorem F_calendar_number_own {a0 : AV} {x0 : AV} {h : Hp} {v : AV} (ha : cvts false h [x0] = some [a0]) (hv : ∀ st, f_calendar_number Try.prog t_calendar_number d_calendar_number NN (fun v g => cvt st g v) a0 [] = some v) : F_calendar_number [x0] h = some (v, h) := by
  have e : ∀ st, (R_calendar_number (nrms [.o] [a0]) []).bind (fun (p : AV × Hp) => cvt st p.2 p.1) = some v := fun st => (R_calendar_number_eq (fun v g => cvt st g v) a0 []).trans (hv st)
  exact (closedX_ownB (shr := [.o]) ha e).trans (congrArg (fun x => some (x, h)) (nrmR_rep 1 v))
/-! spile/calendar.Day -/
noncomputable def t_calendar_Day : Tab := (updF (updF (updF (updF T0 88 F_calendar_is) 89 F_calendar_date) 90 F_calendar_length) 91 F_calendar_number)
theorem t_calendar_Day_ok : TSound Try.prog t_calendar_Day := (TSound.upd (TSound.upd (TSound.upd (TSound.upd TSound.zero F_calendar_is_ok) F_calendar_date_ok) F_calendar_length_ok) F_calendar_number_ok)
@[simp] theorem t_calendar_Day_88 : t_calendar_Day 88 = some F_calendar_is := rfl
@[simp] theorem t_calendar_Day_89 : t_calendar_Day 89 = some F_calendar_date := rfl
@[simp] theorem t_calendar_Day_90 : t_calendar_Day 90 = some F_calendar_length := rfl
@[simp] theorem t_calendar_Day_91 : t_calendar_Day 91 = some F_calendar_number := rfl
noncomputable def d_calendar_Day : DTab := (updD (updD (updD D0 88 G_calendar_is) 89 G_calendar_date) 90 G_calendar_length)
theorem d_calendar_Day_ok : DSound Try.prog d_calendar_Day := (DSound.ro (DSound.ro (DSound.ro DSound.zero G_calendar_is_ro F_calendar_is_ok) G_calendar_date_ro F_calendar_date_ok) G_calendar_length_ro F_calendar_length_ok)
@[simp] theorem d_calendar_Day_88 : d_calendar_Day 88 = some G_calendar_is := rfl
@[simp] theorem d_calendar_Day_89 : d_calendar_Day 89 = some G_calendar_date := rfl
@[simp] theorem d_calendar_Day_90 : d_calendar_Day 90 = some G_calendar_length := rfl
noncomputable def R_calendar_Day : Fun := runF Try.prog t_calendar_Day d_calendar_Day NN [0, 1, 2, 3, 4, 37, 48] Try.f80 1
theorem R_calendar_Day_ok : CSound Try.prog 80 R_calendar_Day := run_sound t_calendar_Day_ok d_calendar_Day_ok mixed Try.func80 (by kernel_rfl) NN
theorem R_calendar_Day_eq {β : Type} (K : AV → Hp → Option β) (a0 : AV) (h : Hp) : (R_calendar_Day [a0] h).bind (fun p => K p.1 p.2) = f_calendar_Day Try.prog t_calendar_Day d_calendar_Day NN K a0 h := by
  rw [← f_calendar_Day_run]; exact runF_bind rfl
noncomputable def F_calendar_Day : Fun := closedX [.o] [.o, .o] R_calendar_Day
theorem F_calendar_Day_ok : CSound Try.prog 80 F_calendar_Day := closedX_sound _ _ R_calendar_Day_ok
noncomputable def G_calendar_Day : DFun := closedXD [.o] [.o, .o] R_calendar_Day
theorem G_calendar_Day_ro : Ro F_calendar_Day G_calendar_Day := closedX_ro _ _ _
theorem F_calendar_Day_run {a0 : AV} {v : AV} (ha : plains [a0] = true) (hv : f_calendar_Day Try.prog t_calendar_Day d_calendar_Day NN (fun v g => cvt false g v) a0 [] = some v) (h : Hp) : F_calendar_Day [a0] h = some (v, h) := by
  have e : (R_calendar_Day (nrms [.o] [a0]) []).bind (fun (p : AV × Hp) => cvt false p.2 p.1) = some v := (R_calendar_Day_eq (fun v g => cvt false g v) a0 []).trans hv
  exact (closedX_bind (shr := [.o, .o]) ha e h).trans (congrArg (fun x => some (x, h)) (nrmR_rep 2 v))
theorem F_calendar_Day_own {a0 : AV} {x0 : AV} {h : Hp} {v : AV} (ha : cvts false h [x0] = some [a0]) (hv : ∀ st, f_calendar_Day Try.prog t_calendar_Day d_calendar_Day NN (fun v g => cvt st g v) a0 [] = some v) : F_calendar_Day [x0] h = some (v, h) := by
  have e : ∀ st, (R_calendar_Day (nrms [.o] [a0]) []).bind (fun (p : AV × Hp) => cvt st p.2 p.1) = some v := fun st => (R_calendar_Day_eq (fun v g => cvt st g v) a0 []).trans (hv st)
  exact (closedX_ownB (shr := [.o, .o]) ha e).trans (congrArg (fun x => some (x, h)) (nrmR_rep 2 v))
/-! spile/season.on$1 -/
noncomputable def t_season_on_1 : Tab := T0
theorem t_season_on_1_ok : TSound Try.prog t_season_on_1 := TSound.zero
noncomputable def d_season_on_1 : DTab := D0
theorem d_season_on_1_ok : DSound Try.prog d_season_on_1 := DSound.zero
noncomputable def R_season_on_1 : Fun := runF Try.prog t_season_on_1 d_season_on_1 NN [0, 1, 2, 4] Try.f82 3
theorem R_season_on_1_ok : CSound Try.prog 82 R_season_on_1 := run_sound t_season_on_1_ok d_season_on_1_ok mixed Try.func82 (by kernel_rfl) NN
theorem R_season_on_1_eq {β : Type} (K : AV → Hp → Option β) (a0 : AV) (a1 : AV) (a2 : AV) (h : Hp) : (R_season_on_1 [a0, a1, a2] h).bind (fun p => K p.1 p.2) = f_season_on_1 Try.prog t_season_on_1 d_season_on_1 NN K a0 a1 a2 h := by
  rw [← f_season_on_1_run]; exact runF_bind rfl
noncomputable def F_season_on_1 : Fun := quietT R_season_on_1
theorem F_season_on_1_ok : CSound Try.prog 82 F_season_on_1 := quietT_sound R_season_on_1_ok
noncomputable def G_season_on_1 : DFun := roD F_season_on_1
theorem G_season_on_1_ro : Ro F_season_on_1 G_season_on_1 := ro_ro _
theorem F_season_on_1_q {a0 : AV} {a1 : AV} {a2 : AV} {h : Hp} {g : List AObj} {v : AV} (hv : f_season_on_1 Try.prog t_season_on_1 d_season_on_1 NN (fun v h => some (v, h)) a0 a1 a2 h = some (v, h ++ g)) (hp : plain v = true) : F_season_on_1 [a0, a1, a2] h = some (v, h) := quietT_val (F := R_season_on_1) (((bind_pair _).symm.trans (R_season_on_1_eq (fun v h => some (v, h)) a0 a1 a2 h)).trans hv) hp
/-! sort.Search : spile/season.on$1 -/
noncomputable def t_sort_Search__season_on_1 : Tab := (updF T0 82 F_season_on_1)
theorem t_sort_Search__season_on_1_ok : TSound Try.prog t_sort_Search__season_on_1 := (TSound.upd TSound.zero F_season_on_1_ok)
@[simp] theorem t_sort_Search__season_on_1_82 : t_sort_Search__season_on_1 82 = some F_season_on_1 := rfl
noncomputable def d_sort_Search__season_on_1 : DTab := D0
theorem d_sort_Search__season_on_1_ok : DSound Try.prog d_sort_Search__season_on_1 := DSound.zero
noncomputable def R_sort_Search__season_on_1 : Fun := runF Try.prog t_sort_Search__season_on_1 d_sort_Search__season_on_1 NN [0, 1, 4, 5, 6, 7, 11, 21] Try.f81 2
theorem R_sort_Search__season_on_1_ok : CSound Try.prog 81 R_sort_Search__season_on_1 := run_sound t_sort_Search__season_on_1_ok d_sort_Search__season_on_1_ok mixed Try.func81 (by kernel_rfl) NN
theorem R_sort_Search__season_on_1_eq {β : Type} (K : AV → Hp → Option β) (a0 : AV) (a1 : AV) (h : Hp) : (R_sort_Search__season_on_1 [a0, a1] h).bind (fun p => K p.1 p.2) = f_sort_Search Try.prog t_sort_Search__season_on_1 d_sort_Search__season_on_1 NN K a0 a1 h := by
  rw [← f_sort_Search_run]; exact runF_bind rfl
noncomputable def F_sort_Search__season_on_1 : Fun := quietT R_sort_Search__season_on_1
theorem F_sort_Search__season_on_1_ok : CSound Try.prog 81 F_sort_Search__season_on_1 := quietT_sound R_sort_Search__season_on_1_ok
noncomputable def G_sort_Search__season_on_1 : DFun := roD F_sort_Search__season_on_1
theorem G_sort_Search__season_on_1_ro : Ro F_sort_Search__season_on_1 G_sort_Search__season_on_1 := ro_ro _
theorem F_sort_Search__season_on_1_q {a0 : AV} {a1 : AV} {h : Hp} {g : List AObj} {v : AV} (hv : f_sort_Search Try.prog t_sort_Search__season_on_1 d_sort_Search__season_on_1 NN (fun v h => some (v, h)) a0 a1 h = some (v, h ++ g)) (hp : plain v = true) : F_sort_Search__season_on_1 [a0, a1] h = some (v, h) := quietT_val (F := R_sort_Search__season_on_1) (((bind_pair _).symm.trans (R_sort_Search__season_on_1_eq (fun v h => some (v, h)) a0 a1 h)).trans hv) hp
/-! spile/season.version$1 -/
noncomputable def t_season_version_1 : Tab := T0
theorem t_season_version_1_ok : TSound Try.prog t_season_version_1 := TSound.zero
noncomputable def d_season_version_1 : DTab := D0
theorem d_season_version_1_ok : DSound Try.prog d_season_version_1 := DSound.zero
noncomputable def R_season_version_1 : Fun := runF Try.prog t_season_version_1 d_season_version_1 NN [0, 1, 2, 4] Try.f92 3
theorem R_season_version_1_ok : CSound Try.prog 92 R_season_version_1 := run_sound t_season_version_1_ok d_season_version_1_ok mixed Try.func92 (by kernel_rfl) NN
theorem R_season_version_1_eq {β : Type} (K : AV → Hp → Option β) (a0 : AV) (a1 : AV) (a2 : AV) (h : Hp) : (R_season_version_1 [a0, a1, a2] h).bind (fun p => K p.1 p.2) = f_season_version_1 Try.prog t_season_version_1 d_season_version_1 NN K a0 a1 a2 h := by
  rw [← f_season_version_1_run]; exact runF_bind rfl
noncomputable def F_season_version_1 : Fun := quietT R_season_version_1
theorem F_season_version_1_ok : CSound Try.prog 92 F_season_version_1 := quietT_sound R_season_version_1_ok
noncomputable def G_season_version_1 : DFun := roD F_season_version_1
theorem G_season_version_1_ro : Ro F_season_version_1 G_season_version_1 := ro_ro _
theorem F_season_version_1_q {a0 : AV} {a1 : AV} {a2 : AV} {h : Hp} {g : List AObj} {v : AV} (hv : f_season_version_1 Try.prog t_season_version_1 d_season_version_1 NN (fun v h => some (v, h)) a0 a1 a2 h = some (v, h ++ g)) (hp : plain v = true) : F_season_version_1 [a0, a1, a2] h = some (v, h) := quietT_val (F := R_season_version_1) (((bind_pair _).symm.trans (R_season_version_1_eq (fun v h => some (v, h)) a0 a1 a2 h)).trans hv) hp
/-! sort.Search : spile/season.version$1 -/
noncomputable def t_sort_Search__season_version_1 : Tab := (updF T0 92 F_season_version_1)
theorem t_sort_Search__season_version_1_ok : TSound Try.prog t_sort_Search__season_version_1 := (TSound.upd TSound.zero F_season_version_1_ok)
@[simp] theorem t_sort_Search__season_version_1_92 : t_sort_Search__season_version_1 92 = some F_season_version_1 := rfl
noncomputable def d_sort_Search__season_version_1 : DTab := D0
theorem d_sort_Search__season_version_1_ok : DSound Try.prog d_sort_Search__season_version_1 := DSound.zero
noncomputable def R_sort_Search__season_version_1 : Fun := runF Try.prog t_sort_Search__season_version_1 d_sort_Search__season_version_1 NN [0, 1, 4, 5, 6, 7, 11, 21] Try.f81 2
theorem R_sort_Search__season_version_1_ok : CSound Try.prog 81 R_sort_Search__season_version_1 := run_sound t_sort_Search__season_version_1_ok d_sort_Search__season_version_1_ok mixed Try.func81 (by kernel_rfl) NN
theorem R_sort_Search__season_version_1_eq {β : Type} (K : AV → Hp → Option β) (a0 : AV) (a1 : AV) (h : Hp) : (R_sort_Search__season_version_1 [a0, a1] h).bind (fun p => K p.1 p.2) = f_sort_Search Try.prog t_sort_Search__season_version_1 d_sort_Search__season_version_1 NN K a0 a1 h := by
  rw [← f_sort_Search_run]; exact runF_bind rfl
noncomputable def F_sort_Search__season_version_1 : Fun := quietT R_sort_Search__season_version_1
theorem F_sort_Search__season_version_1_ok : CSound Try.prog 81 F_sort_Search__season_version_1 := quietT_sound R_sort_Search__season_version_1_ok
noncomputable def G_sort_Search__season_version_1 : DFun := roD F_sort_Search__season_version_1
theorem G_sort_Search__season_version_1_ro : Ro F_sort_Search__season_version_1 G_sort_Search__season_version_1 := ro_ro _
theorem F_sort_Search__season_version_1_q {a0 : AV} {a1 : AV} {h : Hp} {g : List AObj} {v : AV} (hv : f_sort_Search Try.prog t_sort_Search__season_version_1 d_sort_Search__season_version_1 NN (fun v h => some (v, h)) a0 a1 h = some (v, h ++ g)) (hp : plain v = true) : F_sort_Search__season_version_1 [a0, a1] h = some (v, h) := quietT_val (F := R_sort_Search__season_version_1) (((bind_pair _).symm.trans (R_sort_Search__season_version_1_eq (fun v h => some (v, h)) a0 a1 h)).trans hv) hp
/-! spile/season.version -/
noncomputable def t_season_version : Tab := (updF (updF T0 81 F_sort_Search__season_version_1) 92 F_season_version_1)
theorem t_season_version_ok : TSound Try.prog t_season_version := (TSound.upd (TSound.upd TSound.zero F_sort_Search__season_version_1_ok) F_season_version_1_ok)
@[simp] theorem t_season_version_81 : t_season_version 81 = some F_sort_Search__season_version_1 := rfl
@[simp] theorem t_season_version_92 : t_season_version 92 = some F_season_version_1 := rfl
noncomputable def d_season_version : DTab := D0
theorem d_season_version_ok : DSound Try.prog d_season_version := DSound.zero
noncomputable def R_season_version : Fun := runF Try.prog t_season_version d_season_version NN [0, 1, 2, 3, 4, 5, 6, 12] Try.f83 2
theorem R_season_version_ok : CSound Try.prog 83 R_season_version := run_sound t_season_version_ok d_season_version_ok mixed Try.func83 (by kernel_rfl) NN
theorem R_season_version_eq {β : Type} (K : AV → Hp → Option β) (a0 : AV) (a1 : AV) (h : Hp) : (R_season_version [a0, a1] h).bind (fun p => K p.1 p.2) = f_season_version Try.prog t_season_version d_season_version NN K a0 a1 h := by
  rw [← f_season_version_run]; exact runF_bind rfl
noncomputable def F_season_version : Fun := closedX [.l 4, .o] [.o, .o] R_season_version
theorem F_season_version_ok : CSound Try.prog 83 F_season_version := closedX_sound _ _ R_season_version_ok
noncomputable def G_season_version : DFun := closedXD [.l 4, .o] [.o, .o] R_season_version
theorem G_season_version_ro : Ro F_season_version G_season_version := closedX_ro _ _ _
theorem F_season_version_run {a0 : AV} {a1 : AV} {v : AV} (ha : plains [a0, a1] = true) (hv : f_season_version Try.prog t_season_version d_season_version NN (fun v g => cvt false g v) (nrm (.l 4) a0) a1 [] = some v) (h : Hp) : F_season_version [a0, a1] h = some (v, h) := by
  have e : (R_season_version (nrms [.l 4, .o] [a0, a1]) []).bind (fun (p : AV × Hp) => cvt false p.2 p.1) = some v := (R_season_version_eq (fun v g => cvt false g v) (nrm (.l 4) a0) a1 []).trans hv
  exact (closedX_bind (shr := [.o, .o]) ha e h).trans (congrArg (fun x => some (x, h)) (nrmR_rep 2 v))
theorem F_season_version_own {a0 : AV} {a1 : AV} {x0 : AV} {x1 : AV} {h : Hp} {v : AV} (ha : cvts false h [x0, x1] = some [a0, a1]) (hv : ∀ st, f_season_version Try.prog t_season_version d_season_version NN (fun v g => cvt st g v) (nrm (.l 4) a0) a1 [] = some v) : F_season_version [x0, x1] h = some (v, h) := by
  have e : ∀ st, (R_season_version (nrms [.l 4, .o] [a0, a1]) []).bind (fun (p : AV × Hp) => cvt st p.2 p.1) = some v := fun st => (R_season_version_eq (fun v g => cvt st g v) (nrm (.l 4) a0) a1 []).trans (hv st)
  exact (closedX_ownB (shr := [.o, .o]) ha e).trans (congrArg (fun x => some (x, h)) (nrmR_rep 2 v))
/-! spile/season.rate$1 -/
noncomputable def t_season_rate_1 : Tab := (updF T0 45 F_season_before)
theorem t_season_rate_1_ok : TSound Try.prog t_season_rate_1 := (TSound.upd TSound.zero F_season_before_ok)
@[simp] theorem t_season_rate_1_45 : t_season_rate_1 45 = some F_season_before := rfl
noncomputable def d_season_rate_1 : DTab := D0
theorem d_season_rate_1_ok : DSound Try.prog d_season_rate_1 := DSound.zero
noncomputable def R_season_rate_1 : Fun := runF Try.prog t_season_rate_1 d_season_rate_1 NN [0, 1, 2, 4] Try.f93 3
theorem R_season_rate_1_ok : CSound Try.prog 93 R_season_rate_1 := run_sound t_season_rate_1_ok d_season_rate_1_ok mixed Try.func93 (by kernel_rfl) NN
theorem R_season_rate_1_eq {β : Type} (K : AV → Hp → Option β) (a0 : AV) (a1 : AV) (a2 : AV) (h : Hp) : (R_season_rate_1 [a0, a1, a2] h).bind (fun p => K p.1 p.2) = f_season_rate_1 Try.prog t_season_rate_1 d_season_rate_1 NN K a0 a1 a2 h := by
  rw [← f_season_rate_1_run]; exact runF_bind rfl
noncomputable def F_season_rate_1 : Fun := quietT R_season_rate_1
theorem F_season_rate_1_ok : CSound Try.prog 93 F_season_rate_1 := quietT_sound R_season_rate_1_ok
noncomputable def G_season_rate_1 : DFun := roD F_season_rate_1
theorem G_season_rate_1_ro : Ro F_season_rate_1 G_season_rate_1 := ro_ro _
theorem F_season_rate_1_q {a0 : AV} {a1 : AV} {a2 : AV} {h : Hp} {g : List AObj} {v : AV} (hv : f_season_rate_1 Try.prog t_season_rate_1 d_season_rate_1 NN (fun v h => some (v, h)) a0 a1 a2 h = some (v, h ++ g)) (hp : plain v = true) : F_season_rate_1 [a0, a1, a2] h = some (v, h) := quietT_val (F := R_season_rate_1) (((bind_pair _).symm.trans (R_season_rate_1_eq (fun v h => some (v, h)) a0 a1 a2 h)).trans hv) hp
/-! sort.Search : spile/season.rate$1 -/
noncomputable def t_sort_Search__season_rate_1 : Tab := (updF T0 93 F_season_rate_1)
theorem t_sort_Search__season_rate_1_ok : TSound Try.prog t_sort_Search__season_rate_1 := (TSound.upd TSound.zero F_season_rate_1_ok)
@[simp] theorem t_sort_Search__season_rate_1_93 : t_sort_Search__season_rate_1 93 = some F_season_rate_1 := rfl
noncomputable def d_sort_Search__season_rate_1 : DTab := D0
theorem d_sort_Search__season_rate_1_ok : DSound Try.prog d_sort_Search__season_rate_1 := DSound.zero
noncomputable def R_sort_Search__season_rate_1 : Fun := runF Try.prog t_sort_Search__season_rate_1 d_sort_Search__season_rate_1 NN [0, 1, 4, 5, 6, 7, 11, 21] Try.f81 2
theorem R_sort_Search__season_rate_1_ok : CSound Try.prog 81 R_sort_Search__season_rate_1 := run_sound t_sort_Search__season_rate_1_ok d_sort_Search__season_rate_1_ok mixed Try.func81 (by kernel_rfl) NN
theorem R_sort_Search__season_rate_1_eq {β : Type} (K : AV → Hp → Option β) (a0 : AV) (a1 : AV) (h : Hp) : (R_sort_Search__season_rate_1 [a0, a1] h).bind (fun p => K p.1 p.2) = f_sort_Search Try.prog t_sort_Search__season_rate_1 d_sort_Search__season_rate_1 NN K a0 a1 h := by
  rw [← f_sort_Search_run]; exact runF_bind rfl
noncomputable def F_sort_Search__season_rate_1 : Fun := quietT R_sort_Search__season_rate_1
theorem F_sort_Search__season_rate_1_ok : CSound Try.prog 81 F_sort_Search__season_rate_1 := quietT_sound R_sort_Search__season_rate_1_ok
noncomputable def G_sort_Search__season_rate_1 : DFun := roD F_sort_Search__season_rate_1
theorem G_sort_Search__season_rate_1_ro : Ro F_sort_Search__season_rate_1 G_sort_Search__season_rate_1 := ro_ro _
theorem F_sort_Search__season_rate_1_q {a0 : AV} {a1 : AV} {h : Hp} {g : List AObj} {v : AV} (hv : f_sort_Search Try.prog t_sort_Search__season_rate_1 d_sort_Search__season_rate_1 NN (fun v h => some (v, h)) a0 a1 h = some (v, h ++ g)) (hp : plain v = true) : F_sort_Search__season_rate_1 [a0, a1] h = some (v, h) := quietT_val (F := R_sort_Search__season_rate_1) (((bind_pair _).symm.trans (R_sort_Search__season_rate_1_eq (fun v h => some (v, h)) a0 a1 h)).trans hv) hp
/-! spile/season.rate -/
noncomputable def t_season_rate : Tab := (updF (updF T0 81 F_sort_Search__season_rate_1) 93 F_season_rate_1)
theorem t_season_rate_ok : TSound Try.prog t_season_rate := (TSound.upd (TSound.upd TSound.zero F_sort_Search__season_rate_1_ok) F_season_rate_1_ok)
@[simp] theorem t_season_rate_81 : t_season_rate 81 = some F_sort_Search__season_rate_1 := rfl
@[simp] theorem t_season_rate_93 : t_season_rate 93 = some F_season_rate_1 := rfl
noncomputable def d_season_rate : DTab := D0
theorem d_season_rate_ok : DSound Try.prog d_season_rate := DSound.zero
noncomputable def R_season_rate : Fun := runF Try.prog t_season_rate d_season_rate NN [0, 1, 2, 3, 4, 8, 9, 10, 49] Try.f84 4
theorem R_season_rate_ok : CSound Try.prog 84 R_season_rate := run_sound t_season_rate_ok d_season_rate_ok mixed Try.func84 (by kernel_rfl) NN
theorem R_season_rate_eq {β : Type} (K : AV → Hp → Option β) (a0 : AV) (a1 : AV) (a2 : AV) (a3 : AV) (h : Hp) : (R_season_rate [a0, a1, a2, a3] h).bind (fun p => K p.1 p.2) = f_season_rate Try.prog t_season_rate d_season_rate NN K a0 a1 a2 a3 h := by
  rw [← f_season_rate_run]; exact runF_bind rfl
noncomputable def F_season_rate : Fun := closedX [.l 4, .o, .o, .o] [.o] R_season_rate
theorem F_season_rate_ok : CSound Try.prog 84 F_season_rate := closedX_sound _ _ R_season_rate_ok
noncomputable def G_season_rate : DFun := closedXD [.l 4, .o, .o, .o] [.o] R_season_rate
theorem G_season_rate_ro : Ro F_season_rate G_season_rate := closedX_ro _ _ _
theorem F_season_rate_run {a0 : AV} {a1 : AV} {a2 : AV} {a3 : AV} {v : AV} (ha : plains [a0, a1, a2, a3] = true) (hv : f_season_rate Try.prog t_season_rate d_season_rate NN (fun v g => cvt false g v) (nrm (.l 4) a0) a1 a2 a3 [] = some v) (h : Hp) : F_season_rate [a0, a1, a2, a3] h = some (v, h) := by
  have e : (R_season_rate (nrms [.l 4, .o, .o, .o] [a0, a1, a2, a3]) []).bind (fun (p : AV × Hp) => cvt false p.2 p.1) = some v := (R_season_rate_eq (fun v g => cvt false g v) (nrm (.l 4) a0) a1 a2 a3 []).trans hv
  exact (closedX_bind (shr := [.o]) ha e h).trans (congrArg (fun x => some (x, h)) (nrmR_rep 1 v))
theorem F_season_rate_own {a0 : AV} {a1 : AV} {a2 : AV} {a3 : AV} {x0 : AV} {x1 : AV} {x2 : AV} {x3 : AV} {h : Hp} {v : AV} (ha : cvts false h [x0, x1, x2, x3] = some [a0, a1, a2, a3]) (hv : ∀ st, f_season_rate Try.prog t_season_rate d_season_rate NN (fun v g => cvt st g v) (nrm (.l 4) a0) a1 a2 a3 [] = some v) : F_season_rate [x0, x1, x2, x3] h = some (v, h) := by
  have e : ∀ st, (R_season_rate (nrms [.l 4, .o, .o, .o] [a0, a1, a2, a3]) []).bind (fun (p : AV × Hp) => cvt st p.2 p.1) = some v := fun st => (R_season_rate_eq (fun v g => cvt st g v) (nrm (.l 4) a0) a1 a2 a3 []).trans (hv st)
  exact (closedX_ownB (shr := [.o]) ha e).trans (congrArg (fun x => some (x, h)) (nrmR_rep 1 v))
/-! spile/season.on -/
noncomputable def t_season_on : Tab := (updF (updF (updF (updF (updF (updF T0 79 F_calendar_Date) 80 F_calendar_Day) 81 F_sort_Search__season_on_1) 82 F_season_on_1) 83 F_season_version) 84 F_season_rate)
theorem t_season_on_ok : TSound Try.prog t_season_on := (TSound.upd (TSound.upd (TSound.upd (TSound.upd (TSound.upd (TSound.upd TSound.zero F_calendar_Date_ok) F_calendar_Day_ok) F_sort_Search__season_on_1_ok) F_season_on_1_ok) F_season_version_ok) F_season_rate_ok)
@[simp] theorem t_season_on_79 : t_season_on 79 = some F_calendar_Date := rfl
@[simp] theorem t_season_on_80 : t_season_on 80 = some F_calendar_Day := rfl
@[simp] theorem t_season_on_81 : t_season_on 81 = some F_sort_Search__season_on_1 := rfl
@[simp] theorem t_season_on_82 : t_season_on 82 = some F_season_on_1 := rfl
@[simp] theorem t_season_on_83 : t_season_on 83 = some F_season_version := rfl
@[simp] theorem t_season_on_84 : t_season_on 84 = some F_season_rate := rfl
noncomputable def d_season_on : DTab := D0
theorem d_season_on_ok : DSound Try.prog d_season_on := DSound.zero
noncomputable def R_season_on : Fun := runF Try.prog t_season_on d_season_on NN [0, 1, 2, 3, 5, 6, 7, 8, 10, 11, 12, 13, 14, 15, 29, 41, 49, 64] Try.f71 3
theorem R_season_on_ok : CSound Try.prog 71 R_season_on := run_sound t_season_on_ok d_season_on_ok mixed Try.func71 (by kernel_rfl) NN
theorem R_season_on_eq {β : Type} (K : AV → Hp → Option β) (a0 : AV) (a1 : AV) (a2 : AV) (h : Hp) : (R_season_on [a0, a1, a2] h).bind (fun p => K p.1 p.2) = f_season_on Try.prog t_season_on d_season_on NN K a0 a1 a2 h := by
  rw [← f_season_on_run]; exact runF_bind rfl
noncomputable def F_season_on : Fun := closedX [.l 4, .o, .o] [.o, .o] R_season_on
theorem F_season_on_ok : CSound Try.prog 71 F_season_on := closedX_sound _ _ R_season_on_ok
noncomputable def G_season_on : DFun := closedXD [.l 4, .o, .o] [.o, .o] R_season_on
theorem G_season_on_ro : Ro F_season_on G_season_on := closedX_ro _ _ _
theorem F_season_on_run {a0 : AV} {a1 : AV} {a2 : AV} {v : AV} (ha : plains [a0, a1, a2] = true) (hv : f_season_on Try.prog t_season_on d_season_on NN (fun v g => cvt false g v) (nrm (.l 4) a0) a1 a2 [] = some v) (h : Hp) : F_season_on [a0, a1, a2] h = some (v, h) := by
  have e : (R_season_on (nrms [.l 4, .o, .o] [a0, a1, a2]) []).bind (fun (p : AV × Hp) => cvt false p.2 p.1) = some v := (R_season_on_eq (fun v g => cvt false g v) (nrm (.l 4) a0) a1 a2 []).trans hv
  exact (closedX_bind (shr := [.o, .o]) ha e h).trans (congrArg (fun x => some (x, h)) (nrmR_rep 2 v))
theorem F_season_on_own {a0 : AV} {a1 : AV} {a2 : AV} {x0 : AV} {x1 : AV} {x2 : AV} {h : Hp} {v : AV} (ha : cvts false h [x0, x1, x2] = some [a0, a1, a2]) (hv : ∀ st, f_season_on Try.prog t_season_on d_season_on NN (fun v g => cvt st g v) (nrm (.l 4) a0) a1 a2 [] = some v) : F_season_on [x0, x1, x2] h = some (v, h) := by
  have e : ∀ st, (R_season_on (nrms [.l 4, .o, .o] [a0, a1, a2]) []).bind (fun (p : AV × Hp) => cvt st p.2 p.1) = some v := fun st => (R_season_on_eq (fun v g => cvt st g v) (nrm (.l 4) a0) a1 a2 []).trans (hv st)
  exact (closedX_ownB (shr := [.o, .o]) ha e).trans (congrArg (fun x => some (x, h)) (nrmR_rep 2 v))
/-! spile/season.sum -/
noncomputable def t_season_sum : Tab := (updF T0 71 F_season_on)
theorem t_season_sum_ok : TSound Try.prog t_season_sum := (TSound.upd TSound.zero F_season_on_ok)
@[simp] theorem t_season_sum_71 : t_season_sum 71 = some F_season_on := rfl
noncomputable def d_season_sum : DTab := D0
theorem d_season_sum_ok : DSound Try.prog d_season_sum := DSound.zero
noncomputable def R_season_sum : Fun := runF Try.prog t_season_sum d_season_sum NN [0, 1, 2, 3, 8, 9, 10, 11, 14, 15, 16, 19] Try.f48 4
theorem R_season_sum_ok : CSound Try.prog 48 R_season_sum := run_sound t_season_sum_ok d_season_sum_ok mixed Try.func48 (by kernel_rfl) NN
theorem R_season_sum_eq {β : Type} (K : AV → Hp → Option β) (a0 : AV) (a1 : AV) (a2 : AV) (a3 : AV) (h : Hp) : (R_season_sum [a0, a1, a2, a3] h).bind (fun p => K p.1 p.2) = f_season_sum Try.prog t_season_sum d_season_sum NN K a0 a1 a2 a3 h := by
  rw [← f_season_sum_run]; exact runF_bind rfl
noncomputable def F_season_sum : Fun := closedX [.l 4, .o, .o, .o] [.o] R_season_sum
theorem F_season_sum_ok : CSound Try.prog 48 F_season_sum := closedX_sound _ _ R_season_sum_ok
noncomputable def G_season_sum : DFun := closedXD [.l 4, .o, .o, .o] [.o] R_season_sum
theorem G_season_sum_ro : Ro F_season_sum G_season_sum := closedX_ro _ _ _
theorem F_season_sum_run {a0 : AV} {a1 : AV} {a2 : AV} {a3 : AV} {v : AV} (ha : plains [a0, a1, a2, a3] = true) (hv : f_season_sum Try.prog t_season_sum d_season_sum NN (fun v g => cvt false g v) (nrm (.l 4) a0) a1 a2 a3 [] = some v) (h : Hp) : F_season_sum [a0, a1, a2, a3] h = some (v, h) := by
  have e : (R_season_sum (nrms [.l 4, .o, .o, .o] [a0, a1, a2, a3]) []).bind (fun (p : AV × Hp) => cvt false p.2 p.1) = some v := (R_season_sum_eq (fun v g => cvt false g v) (nrm (.l 4) a0) a1 a2 a3 []).trans hv
  exact (closedX_bind (shr := [.o]) ha e h).trans (congrArg (fun x => some (x, h)) (nrmR_rep 1 v))
theorem F_season_sum_own {a0 : AV} {a1 : AV} {a2 : AV} {a3 : AV} {x0 : AV} {x1 : AV} {x2 : AV} {x3 : AV} {h : Hp} {v : AV} (ha : cvts false h [x0, x1, x2, x3] = some [a0, a1, a2, a3]) (hv : ∀ st, f_season_sum Try.prog t_season_sum d_season_sum NN (fun v g => cvt st g v) (nrm (.l 4) a0) a1 a2 a3 [] = some v) : F_season_sum [x0, x1, x2, x3] h = some (v, h) := by
  have e : ∀ st, (R_season_sum (nrms [.l 4, .o, .o, .o] [a0, a1, a2, a3]) []).bind (fun (p : AV × Hp) => cvt st p.2 p.1) = some v := fun st => (R_season_sum_eq (fun v g => cvt st g v) (nrm (.l 4) a0) a1 a2 a3 []).trans (hv st)
  exact (closedX_ownB (shr := [.o]) ha e).trans (congrArg (fun x => some (x, h)) (nrmR_rep 1 v))
/-! spile/season.Allowed -/
noncomputable def t_season_Allowed : Tab := (updF (updF (updF (updF T0 44 F_season_in) 46 F_season_right) 47 F_proportion_Of) 48 F_season_sum)
theorem t_season_Allowed_ok : TSound Try.prog t_season_Allowed := (TSound.upd (TSound.upd (TSound.upd (TSound.upd TSound.zero F_season_in_ok) F_season_right_ok) F_proportion_Of_ok) F_season_sum_ok)
@[simp] theorem t_season_Allowed_44 : t_season_Allowed 44 = some F_season_in := rfl
@[simp] theorem t_season_Allowed_46 : t_season_Allowed 46 = some F_season_right := rfl
@[simp] theorem t_season_Allowed_47 : t_season_Allowed 47 = some F_proportion_Of := rfl
@[simp] theorem t_season_Allowed_48 : t_season_Allowed 48 = some F_season_sum := rfl
noncomputable def d_season_Allowed : DTab := D0
theorem d_season_Allowed_ok : DSound Try.prog d_season_Allowed := DSound.zero
noncomputable def R_season_Allowed : Fun := runF Try.prog t_season_Allowed d_season_Allowed NN [0, 1, 2, 3, 4, 10, 11, 12, 14, 15, 19, 38, 54] Try.f37 5
theorem R_season_Allowed_ok : CSound Try.prog 37 R_season_Allowed := run_sound t_season_Allowed_ok d_season_Allowed_ok mixed Try.func37 (by kernel_rfl) NN
theorem R_season_Allowed_eq {β : Type} (K : AV → Hp → Option β) (a0 : AV) (a1 : AV) (a2 : AV) (a3 : AV) (a4 : AV) (h : Hp) : (R_season_Allowed [a0, a1, a2, a3, a4] h).bind (fun p => K p.1 p.2) = f_season_Allowed Try.prog t_season_Allowed d_season_Allowed NN K a0 a1 a2 a3 a4 h := by
  rw [← f_season_Allowed_run]; exact runF_bind rfl
noncomputable def F_season_Allowed : Fun := closedX [.l 4, .o, .o, .o, .o] [.o, .o] R_season_Allowed
theorem F_season_Allowed_ok : CSound Try.prog 37 F_season_Allowed := closedX_sound _ _ R_season_Allowed_ok
noncomputable def G_season_Allowed : DFun := closedXD [.l 4, .o, .o, .o, .o] [.o, .o] R_season_Allowed
theorem G_season_Allowed_ro : Ro F_season_Allowed G_season_Allowed := closedX_ro _ _ _
theorem F_season_Allowed_run {a0 : AV} {a1 : AV} {a2 : AV} {a3 : AV} {a4 : AV} {v : AV} (ha : plains [a0, a1, a2, a3, a4] = true) (hv : f_season_Allowed Try.prog t_season_Allowed d_season_Allowed NN (fun v g => cvt false g v) (nrm (.l 4) a0) a1 a2 a3 a4 [] = some v) (h : Hp) : F_season_Allowed [a0, a1, a2, a3, a4] h = some (v, h) := by
  have e : (R_season_Allowed (nrms [.l 4, .o, .o, .o, .o] [a0, a1, a2, a3, a4]) []).bind (fun (p : AV × Hp) => cvt false p.2 p.1) = some v := (R_season_Allowed_eq (fun v g => cvt false g v) (nrm (.l 4) a0) a1 a2 a3 a4 []).trans hv
  exact (closedX_bind (shr := [.o, .o]) ha e h).trans (congrArg (fun x => some (x, h)) (nrmR_rep 2 v))
theorem F_season_Allowed_own {a0 : AV} {a1 : AV} {a2 : AV} {a3 : AV} {a4 : AV} {x0 : AV} {x1 : AV} {x2 : AV} {x3 : AV} {x4 : AV} {h : Hp} {v : AV} (ha : cvts false h [x0, x1, x2, x3, x4] = some [a0, a1, a2, a3, a4]) (hv : ∀ st, f_season_Allowed Try.prog t_season_Allowed d_season_Allowed NN (fun v g => cvt st g v) (nrm (.l 4) a0) a1 a2 a3 a4 [] = some v) : F_season_Allowed [x0, x1, x2, x3, x4] h = some (v, h) := by
  have e : ∀ st, (R_season_Allowed (nrms [.l 4, .o, .o, .o, .o] [a0, a1, a2, a3, a4]) []).bind (fun (p : AV × Hp) => cvt st p.2 p.1) = some v := fun st => (R_season_Allowed_eq (fun v g => cvt st g v) (nrm (.l 4) a0) a1 a2 a3 a4 []).trans (hv st)
  exact (closedX_ownB (shr := [.o, .o]) ha e).trans (congrArg (fun x => some (x, h)) (nrmR_rep 2 v))
/-! spile/loss.amount -/
noncomputable def t_loss_amount : Tab := T0
theorem t_loss_amount_ok : TSound Try.prog t_loss_amount := TSound.zero
noncomputable def d_loss_amount : DTab := D0
theorem d_loss_amount_ok : DSound Try.prog d_loss_amount := DSound.zero
noncomputable def R_loss_amount : Fun := runF Try.prog t_loss_amount d_loss_amount NN [0, 2, 4, 5, 6, 7, 8, 16] Try.f49 1
theorem R_loss_amount_ok : CSound Try.prog 49 R_loss_amount := run_sound t_loss_amount_ok d_loss_amount_ok mixed Try.func49 (by kernel_rfl) NN
theorem R_loss_amount_eq {β : Type} (K : AV → Hp → Option β) (a0 : AV) (h : Hp) : (R_loss_amount [a0] h).bind (fun p => K p.1 p.2) = f_loss_amount Try.prog t_loss_amount d_loss_amount NN K a0 h := by
  rw [← f_loss_amount_run]; exact runF_bind rfl
noncomputable def F_loss_amount : Fun := closedX [.l 1] [.o] R_loss_amount
theorem F_loss_amount_ok : CSound Try.prog 49 F_loss_amount := closedX_sound _ _ R_loss_amount_ok
noncomputable def G_loss_amount : DFun := closedXD [.l 1] [.o] R_loss_amount
theorem G_loss_amount_ro : Ro F_loss_amount G_loss_amount := closedX_ro _ _ _
theorem F_loss_amount_run {a0 : AV} {v : AV} (ha : plains [a0] = true) (hv : f_loss_amount Try.prog t_loss_amount d_loss_amount NN (fun v g => cvt false g v) (nrm (.l 1) a0) [] = some v) (h : Hp) : F_loss_amount [a0] h = some (v, h) := by
  have e : (R_loss_amount (nrms [.l 1] [a0]) []).bind (fun (p : AV × Hp) => cvt false p.2 p.1) = some v := (R_loss_amount_eq (fun v g => cvt false g v) (nrm (.l 1) a0) []).trans hv
  exact (closedX_bind (shr := [.o]) ha e h).trans (congrArg (fun x => some (x, h)) (nrmR_rep 1 v))
theorem F_loss_amount_own {a0 : AV} {x0 : AV} {h : Hp} {v : AV} (ha : cvts false h [x0] = some [a0]) (hv : ∀ st, f_loss_amount Try.prog t_loss_amount d_loss_amount NN (fun v g => cvt st g v) (nrm (.l 1) a0) [] = some v) : F_loss_amount [x0] h = some (v, h) := by
  have e : ∀ st, (R_loss_amount (nrms [.l 1] [a0]) []).bind (fun (p : AV × Hp) => cvt st p.2 p.1) = some v := fun st => (R_loss_amount_eq (fun v g => cvt st g v) (nrm (.l 1) a0) []).trans (hv st)
  exact (closedX_ownB (shr := [.o]) ha e).trans (congrArg (fun x => some (x, h)) (nrmR_rep 1 v))
/-! spile/loss.split$1 -/
noncomputable def t_loss_split_1 : Tab := T0
theorem t_loss_split_1_ok : TSound Try.prog t_loss_split_1 := TSound.zero
noncomputable def d_loss_split_1 : DTab := D0
theorem d_loss_split_1_ok : DSound Try.prog d_loss_split_1 := DSound.zero
noncomputable def R_loss_split_1 : Fun := runF Try.prog t_loss_split_1 d_loss_split_1 NN [0, 1, 3, 4] Try.f72 2
theorem R_loss_split_1_ok : CSound Try.prog 72 R_loss_split_1 := run_sound t_loss_split_1_ok d_loss_split_1_ok mixed Try.func72 (by kernel_rfl) NN
theorem R_loss_split_1_eq {β : Type} (K : AV → Hp → Option β) (a0 : AV) (a1 : AV) (h : Hp) : (R_loss_split_1 [a0, a1] h).bind (fun p => K p.1 p.2) = f_loss_split_1 Try.prog t_loss_split_1 d_loss_split_1 NN K a0 a1 h := by
  rw [← f_loss_split_1_run]; exact runF_bind rfl
noncomputable def F_loss_split_1 : Fun := R_loss_split_1
theorem F_loss_split_1_ok : CSound Try.prog 72 F_loss_split_1 := R_loss_split_1_ok
noncomputable def G_loss_split_1 : DFun := roD F_loss_split_1
theorem G_loss_split_1_ro : Ro F_loss_split_1 G_loss_split_1 := ro_ro _
theorem F_loss_split_1_raw (a0 : AV) (a1 : AV) (h : Hp) : F_loss_split_1 [a0, a1] h = f_loss_split_1 Try.prog t_loss_split_1 d_loss_split_1 NN (fun v h => some (v, h)) a0 a1 h := (bind_pair _).symm.trans (R_loss_split_1_eq (fun v h => some (v, h)) a0 a1 h)
/-! spile/loss.split -/
noncomputable def t_loss_split : Tab := (updF T0 72 F_loss_split_1)
theorem t_loss_split_ok : TSound Try.prog t_loss_split := (TSound.upd TSound.zero F_loss_split_1_ok)
@[simp] theorem t_loss_split_72 : t_loss_split 72 = some F_loss_split_1 := rfl
noncomputable def d_loss_split : DTab := D0
theorem d_loss_split_ok : DSound Try.prog d_loss_split := DSound.zero
noncomputable def R_loss_split : Fun := runF Try.prog t_loss_split d_loss_split NN [0, 1, 2, 3, 8, 9, 10, 11, 14] Try.f50 4
theorem R_loss_split_ok : CSound Try.prog 50 R_loss_split := run_sound t_loss_split_ok d_loss_split_ok mixed Try.func50 (by kernel_rfl) NN
theorem R_loss_split_eq {β : Type} (K : AV → Hp → Option β) (a0 : AV) (a1 : AV) (a2 : AV) (a3 : AV) (h : Hp) : (R_loss_split [a0, a1, a2, a3] h).bind (fun p => K p.1 p.2) = f_loss_split Try.prog t_loss_split d_loss_split NN K a0 a1 a2 a3 h := by
  rw [← f_loss_split_run]; exact runF_bind rfl
noncomputable def F_loss_split : Fun := closedX [.o, .o, .o, .o] [.o] R_loss_split
theorem F_loss_split_ok : CSound Try.prog 50 F_loss_split := closedX_sound _ _ R_loss_split_ok
noncomputable def G_loss_split : DFun := closedXD [.o, .o, .o, .o] [.o] R_loss_split
theorem G_loss_split_ro : Ro F_loss_split G_loss_split := closedX_ro _ _ _
theorem F_loss_split_run {a0 : AV} {a1 : AV} {a2 : AV} {a3 : AV} {v : AV} (ha : plains [a0, a1, a2, a3] = true) (hv : f_loss_split Try.prog t_loss_split d_loss_split NN (fun v g => cvt false g v) a0 a1 a2 a3 [] = some v) (h : Hp) : F_loss_split [a0, a1, a2, a3] h = some (v, h) := by
  have e : (R_loss_split (nrms [.o, .o, .o, .o] [a0, a1, a2, a3]) []).bind (fun (p : AV × Hp) => cvt false p.2 p.1) = some v := (R_loss_split_eq (fun v g => cvt false g v) a0 a1 a2 a3 []).trans hv
  exact (closedX_bind (shr := [.o]) ha e h).trans (congrArg (fun x => some (x, h)) (nrmR_rep 1 v))
theorem F_loss_split_own {a0 : AV} {a1 : AV} {a2 : AV} {a3 : AV} {x0 : AV} {x1 : AV} {x2 : AV} {x3 : AV} {h : Hp} {v : AV} (ha : cvts false h [x0, x1, x2, x3] = some [a0, a1, a2, a3]) (hv : ∀ st, f_loss_split Try.prog t_loss_split d_loss_split NN (fun v g => cvt st g v) a0 a1 a2 a3 [] = some v) : F_loss_split [x0, x1, x2, x3] h = some (v, h) := by
  have e : ∀ st, (R_loss_split (nrms [.o, .o, .o, .o] [a0, a1, a2, a3]) []).bind (fun (p : AV × Hp) => cvt st p.2 p.1) = some v := fun st => (R_loss_split_eq (fun v g => cvt st g v) a0 a1 a2 a3 []).trans (hv st)
  exact (closedX_ownB (shr := [.o]) ha e).trans (congrArg (fun x => some (x, h)) (nrmR_rep 1 v))
/-! spile/loss.Split -/
noncomputable def t_loss_Split : Tab := (updF (updF T0 49 F_loss_amount) 50 F_loss_split)
theorem t_loss_Split_ok : TSound Try.prog t_loss_Split := (TSound.upd (TSound.upd TSound.zero F_loss_amount_ok) F_loss_split_ok)
@[simp] theorem t_loss_Split_49 : t_loss_Split 49 = some F_loss_amount := rfl
@[simp] theorem t_loss_Split_50 : t_loss_Split 50 = some F_loss_split := rfl
noncomputable def d_loss_Split : DTab := D0
theorem d_loss_Split_ok : DSound Try.prog d_loss_Split := DSound.zero
noncomputable def R_loss_Split : Fun := runF Try.prog t_loss_Split d_loss_Split NN [0, 1, 2, 3, 8, 9, 16] Try.f38 4
theorem R_loss_Split_ok : CSound Try.prog 38 R_loss_Split := run_sound t_loss_Split_ok d_loss_Split_ok mixed Try.func38 (by kernel_rfl) NN
theorem R_loss_Split_eq {β : Type} (K : AV → Hp → Option β) (a0 : AV) (a1 : AV) (a2 : AV) (a3 : AV) (h : Hp) : (R_loss_Split [a0, a1, a2, a3] h).bind (fun p => K p.1 p.2) = f_loss_Split Try.prog t_loss_Split d_loss_Split NN K a0 a1 a2 a3 h := by
  rw [← f_loss_Split_run]; exact runF_bind rfl
noncomputable def F_loss_Split : Fun := closedX [.o, .o, .o, .o] [.o, .o] R_loss_Split
theorem F_loss_Split_ok : CSound Try.prog 38 F_loss_Split := closedX_sound _ _ R_loss_Split_ok
noncomputable def G_loss_Split : DFun := closedXD [.o, .o, .o, .o] [.o, .o] R_loss_Split
theorem G_loss_Split_ro : Ro F_loss_Split G_loss_Split := closedX_ro _ _ _
theorem F_loss_Split_run {a0 : AV} {a1 : AV} {a2 : AV} {a3 : AV} {v : AV} (ha : plains [a0, a1, a2, a3] = true) (hv : f_loss_Split Try.prog t_loss_Split d_loss_Split NN (fun v g => cvt false g v) a0 a1 a2 a3 [] = some v) (h : Hp) : F_loss_Split [a0, a1, a2, a3] h = some (v, h) := by
  have e : (R_loss_Split (nrms [.o, .o, .o, .o] [a0, a1, a2, a3]) []).bind (fun (p : AV × Hp) => cvt false p.2 p.1) = some v := (R_loss_Split_eq (fun v g => cvt false g v) a0 a1 a2 a3 []).trans hv
  exact (closedX_bind (shr := [.o, .o]) ha e h).trans (congrArg (fun x => some (x, h)) (nrmR_rep 2 v))
theorem F_loss_Split_own {a0 : AV} {a1 : AV} {a2 : AV} {a3 : AV} {x0 : AV} {x1 : AV} {x2 : AV} {x3 : AV} {h : Hp} {v : AV} (ha : cvts false h [x0, x1, x2, x3] = some [a0, a1, a2, a3]) (hv : ∀ st, f_loss_Split Try.prog t_loss_Split d_loss_Split NN (fun v g => cvt st g v) a0 a1 a2 a3 [] = some v) : F_loss_Split [x0, x1, x2, x3] h = some (v, h) := by
  have e : ∀ st, (R_loss_Split (nrms [.o, .o, .o, .o] [a0, a1, a2, a3]) []).bind (fun (p : AV × Hp) => cvt st p.2 p.1) = some v := fun st => (R_loss_Split_eq (fun v g => cvt st g v) a0 a1 a2 a3 []).trans (hv st)
  exact (closedX_ownB (shr := [.o, .o]) ha e).trans (congrArg (fun x => some (x, h)) (nrmR_rep 2 v))
/-! spile/journey.Claim -/
noncomputable def t_journey_Claim : Tab := (updF (updF (updF (updF T0 18 F_journey_Run) 36 F_season_Check) 37 F_season_Allowed) 38 F_loss_Split)
theorem t_journey_Claim_ok : TSound Try.prog t_journey_Claim := (TSound.upd (TSound.upd (TSound.upd (TSound.upd TSound.zero F_journey_Run_ok) F_season_Check_ok) F_season_Allowed_ok) F_loss_Split_ok)
@[simp] theorem t_journey_Claim_18 : t_journey_Claim 18 = some F_journey_Run := rfl
@[simp] theorem t_journey_Claim_36 : t_journey_Claim 36 = some F_season_Check := rfl
@[simp] theorem t_journey_Claim_37 : t_journey_Claim 37 = some F_season_Allowed := rfl
@[simp] theorem t_journey_Claim_38 : t_journey_Claim 38 = some F_loss_Split := rfl
noncomputable def d_journey_Claim : DTab := D0
theorem d_journey_Claim_ok : DSound Try.prog d_journey_Claim := DSound.zero
noncomputable def R_journey_Claim : Fun := runF Try.prog t_journey_Claim d_journey_Claim NN [0, 1, 4, 5, 6, 8, 10, 11, 12, 25, 33] Try.f16 2
theorem R_journey_Claim_ok : CSound Try.prog 16 R_journey_Claim := run_sound t_journey_Claim_ok d_journey_Claim_ok mixed Try.func16 (by kernel_rfl) NN
theorem R_journey_Claim_eq {β : Type} (K : AV → Hp → Option β) (a0 : AV) (a1 : AV) (h : Hp) : (R_journey_Claim [a0, a1] h).bind (fun p => K p.1 p.2) = f_journey_Claim Try.prog t_journey_Claim d_journey_Claim NN K a0 a1 h := by
  rw [← f_journey_Claim_run]; exact runF_bind rfl
noncomputable def F_journey_Claim : Fun := closedX [.l 5, .l 4] [.o, .o] R_journey_Claim
theorem F_journey_Claim_ok : CSound Try.prog 16 F_journey_Claim := closedX_sound _ _ R_journey_Claim_ok
noncomputable def G_journey_Claim : DFun := closedXD [.l 5, .l 4] [.o, .o] R_journey_Claim
theorem G_journey_Claim_ro : Ro F_journey_Claim G_journey_Claim := closedX_ro _ _ _
theorem F_journey_Claim_run {a0 : AV} {a1 : AV} {v : AV} (ha : plains [a0, a1] = true) (hv : f_journey_Claim Try.prog t_journey_Claim d_journey_Claim NN (fun v g => cvt false g v) (nrm (.l 5) a0) (nrm (.l 4) a1) [] = some v) (h : Hp) : F_journey_Claim [a0, a1] h = some (v, h) := by
  have e : (R_journey_Claim (nrms [.l 5, .l 4] [a0, a1]) []).bind (fun (p : AV × Hp) => cvt false p.2 p.1) = some v := (R_journey_Claim_eq (fun v g => cvt false g v) (nrm (.l 5) a0) (nrm (.l 4) a1) []).trans hv
  exact (closedX_bind (shr := [.o, .o]) ha e h).trans (congrArg (fun x => some (x, h)) (nrmR_rep 2 v))
theorem F_journey_Claim_own {a0 : AV} {a1 : AV} {x0 : AV} {x1 : AV} {h : Hp} {v : AV} (ha : cvts false h [x0, x1] = some [a0, a1]) (hv : ∀ st, f_journey_Claim Try.prog t_journey_Claim d_journey_Claim NN (fun v g => cvt st g v) (nrm (.l 5) a0) (nrm (.l 4) a1) [] = some v) : F_journey_Claim [x0, x1] h = some (v, h) := by
  have e : ∀ st, (R_journey_Claim (nrms [.l 5, .l 4] [a0, a1]) []).bind (fun (p : AV × Hp) => cvt st p.2 p.1) = some v := fun st => (R_journey_Claim_eq (fun v g => cvt st g v) (nrm (.l 5) a0) (nrm (.l 4) a1) []).trans (hv st)
  exact (closedX_ownB (shr := [.o, .o]) ha e).trans (congrArg (fun x => some (x, h)) (nrmR_rep 2 v))
/-! spile/spilelaw45.example -/
noncomputable def t_law45_example : Tab := T0
theorem t_law45_example_ok : TSound Try.prog t_law45_example := TSound.zero
noncomputable def d_law45_example : DTab := D0
theorem d_law45_example_ok : DSound Try.prog d_law45_example := DSound.zero
noncomputable def R_law45_example : Fun := runF Try.prog t_law45_example d_law45_example NN [0] Try.f24 0
theorem R_law45_example_ok : CSound Try.prog 24 R_law45_example := run_sound t_law45_example_ok d_law45_example_ok mixed Try.func24 (by kernel_rfl) NN
theorem R_law45_example_eq {β : Type} (K : AV → Hp → Option β) (h : Hp) : (R_law45_example [] h).bind (fun p => K p.1 p.2) = f_law45_example Try.prog t_law45_example d_law45_example NN K  h := by
  rw [← f_law45_example_run]; exact runF_bind rfl
noncomputable def F_law45_example : Fun := closedX [] [.l 5] R_law45_example
theorem F_law45_example_ok : CSound Try.prog 24 F_law45_example := closedX_sound _ _ R_law45_example_ok
noncomputable def G_law45_example : DFun := closedXD [] [.l 5] R_law45_example
theorem G_law45_example_ro : Ro F_law45_example G_law45_example := closedX_ro _ _ _
theorem F_law45_example_run {v : AV} (ha : plains [] = true) (hv : f_law45_example Try.prog t_law45_example d_law45_example NN (fun v g => cvt false g v)  [] = some v) (h : Hp) : F_law45_example [] h = some ((nrmR [.l 5] v), h) := by
  have e : (R_law45_example (nrms [] []) []).bind (fun (p : AV × Hp) => cvt false p.2 p.1) = some v := (R_law45_example_eq (fun v g => cvt false g v)  []).trans hv
  exact (closedX_bind (shr := [.l 5]) ha e h).trans (congrArg (fun x => some (x, h)) rfl)
/-! spile/journey.Days -/
noncomputable def t_journey_Days : Tab := (updF (updF T0 30 F_journey_right) 31 F_journey_in)
theorem t_journey_Days_ok : TSound Try.prog t_journey_Days := (TSound.upd (TSound.upd TSound.zero F_journey_right_ok) F_journey_in_ok)
@[simp] theorem t_journey_Days_30 : t_journey_Days 30 = some F_journey_right := rfl
@[simp] theorem t_journey_Days_31 : t_journey_Days 31 = some F_journey_in := rfl
noncomputable def d_journey_Days : DTab := D0
theorem d_journey_Days_ok : DSound Try.prog d_journey_Days := DSound.zero
noncomputable def R_journey_Days : Fun := runF Try.prog t_journey_Days d_journey_Days NN [0, 1, 4, 5, 6, 7, 8, 9, 11, 12, 16, 20, 33, 34, 35, 36, 39, 44, 50, 56, 68] Try.f25 2
theorem R_journey_Days_ok : CSound Try.prog 25 R_journey_Days := run_sound t_journey_Days_ok d_journey_Days_ok mixed Try.func25 (by kernel_rfl) NN
theorem R_journey_Days_eq {β : Type} (K : AV → Hp → Option β) (a0 : AV) (a1 : AV) (h : Hp) : (R_journey_Days [a0, a1] h).bind (fun p => K p.1 p.2) = f_journey_Days Try.prog t_journey_Days d_journey_Days NN K a0 a1 h := by
  rw [← f_journey_Days_run]; exact runF_bind rfl
noncomputable def F_journey_Days : Fun := closedX [.l 5, .o] [.o, .o, .o] R_journey_Days
theorem F_journey_Days_ok : CSound Try.prog 25 F_journey_Days := closedX_sound _ _ R_journey_Days_ok
noncomputable def G_journey_Days : DFun := closedXD [.l 5, .o] [.o, .o, .o] R_journey_Days
theorem G_journey_Days_ro : Ro F_journey_Days G_journey_Days := closedX_ro _ _ _
theorem F_journey_Days_run {a0 : AV} {a1 : AV} {v : AV} (ha : plains [a0, a1] = true) (hv : f_journey_Days Try.prog t_journey_Days d_journey_Days NN (fun v g => cvt false g v) (nrm (.l 5) a0) a1 [] = some v) (h : Hp) : F_journey_Days [a0, a1] h = some (v, h) := by
  have e : (R_journey_Days (nrms [.l 5, .o] [a0, a1]) []).bind (fun (p : AV × Hp) => cvt false p.2 p.1) = some v := (R_journey_Days_eq (fun v g => cvt false g v) (nrm (.l 5) a0) a1 []).trans hv
  exact (closedX_bind (shr := [.o, .o, .o]) ha e h).trans (congrArg (fun x => some (x, h)) (nrmR_rep 3 v))
theorem F_journey_Days_own {a0 : AV} {a1 : AV} {x0 : AV} {x1 : AV} {h : Hp} {v : AV} (ha : cvts false h [x0, x1] = some [a0, a1]) (hv : ∀ st, f_journey_Days Try.prog t_journey_Days d_journey_Days NN (fun v g => cvt st g v) (nrm (.l 5) a0) a1 [] = some v) : F_journey_Days [x0, x1] h = some (v, h) := by
  have e : ∀ st, (R_journey_Days (nrms [.l 5, .o] [a0, a1]) []).bind (fun (p : AV × Hp) => cvt st p.2 p.1) = some v := fun st => (R_journey_Days_eq (fun v g => cvt st g v) (nrm (.l 5) a0) a1 []).trans (hv st)
  exact (closedX_ownB (shr := [.o, .o, .o]) ha e).trans (congrArg (fun x => some (x, h)) (nrmR_rep 3 v))
/-! spile/spilelaw45.table -/
noncomputable def t_law45_table : Tab := T0
theorem t_law45_table_ok : TSound Try.prog t_law45_table := TSound.zero
noncomputable def d_law45_table : DTab := D0
theorem d_law45_table_ok : DSound Try.prog d_law45_table := DSound.zero
noncomputable def R_law45_table : Fun := runF Try.prog t_law45_table d_law45_table NN [0] Try.f26 0
theorem R_law45_table_ok : CSound Try.prog 26 R_law45_table := run_sound t_law45_table_ok d_law45_table_ok mixed Try.func26 (by kernel_rfl) NN
theorem R_law45_table_eq {β : Type} (K : AV → Hp → Option β) (h : Hp) : (R_law45_table [] h).bind (fun p => K p.1 p.2) = f_law45_table Try.prog t_law45_table d_law45_table NN K  h := by
  rw [← f_law45_table_run]; exact runF_bind rfl
noncomputable def F_law45_table : Fun := closedX [] [.l 4] R_law45_table
theorem F_law45_table_ok : CSound Try.prog 26 F_law45_table := closedX_sound _ _ R_law45_table_ok
noncomputable def G_law45_table : DFun := closedXD [] [.l 4] R_law45_table
theorem G_law45_table_ro : Ro F_law45_table G_law45_table := closedX_ro _ _ _
theorem F_law45_table_run {v : AV} (ha : plains [] = true) (hv : f_law45_table Try.prog t_law45_table d_law45_table NN (fun v g => cvt false g v)  [] = some v) (h : Hp) : F_law45_table [] h = some ((nrmR [.l 4] v), h) := by
  have e : (R_law45_table (nrms [] []) []).bind (fun (p : AV × Hp) => cvt false p.2 p.1) = some v := (R_law45_table_eq (fun v g => cvt false g v)  []).trans hv
  exact (closedX_bind (shr := [.l 4]) ha e h).trans (congrArg (fun x => some (x, h)) rfl)
/-! spile/journey.Messages -/
noncomputable def t_journey_Messages : Tab := (updF (updF T0 30 F_journey_right) 31 F_journey_in)
theorem t_journey_Messages_ok : TSound Try.prog t_journey_Messages := (TSound.upd (TSound.upd TSound.zero F_journey_right_ok) F_journey_in_ok)
@[simp] theorem t_journey_Messages_30 : t_journey_Messages 30 = some F_journey_right := rfl
@[simp] theorem t_journey_Messages_31 : t_journey_Messages 31 = some F_journey_in := rfl
noncomputable def d_journey_Messages : DTab := D0
theorem d_journey_Messages_ok : DSound Try.prog d_journey_Messages := DSound.zero
noncomputable def R_journey_Messages : Fun := runF Try.prog t_journey_Messages d_journey_Messages NN [0, 1, 4, 5, 6, 7, 9, 10, 11, 15, 19, 20, 21, 22, 30, 31, 43, 53, 74] Try.f27 2
theorem R_journey_Messages_ok : CSound Try.prog 27 R_journey_Messages := run_sound t_journey_Messages_ok d_journey_Messages_ok mixed Try.func27 (by kernel_rfl) NN
theorem R_journey_Messages_eq {β : Type} (K : AV → Hp → Option β) (a0 : AV) (a1 : AV) (h : Hp) : (R_journey_Messages [a0, a1] h).bind (fun p => K p.1 p.2) = f_journey_Messages Try.prog t_journey_Messages d_journey_Messages NN K a0 a1 h := by
  rw [← f_journey_Messages_run]; exact runF_bind rfl
noncomputable def F_journey_Messages : Fun := closedX [.l 5, .o] [.l 7, .o] R_journey_Messages
theorem F_journey_Messages_ok : CSound Try.prog 27 F_journey_Messages := closedX_sound _ _ R_journey_Messages_ok
noncomputable def G_journey_Messages : DFun := closedXD [.l 5, .o] [.l 7, .o] R_journey_Messages
theorem G_journey_Messages_ro : Ro F_journey_Messages G_journey_Messages := closedX_ro _ _ _
theorem F_journey_Messages_run {a0 : AV} {a1 : AV} {v : AV} (ha : plains [a0, a1] = true) (hv : f_journey_Messages Try.prog t_journey_Messages d_journey_Messages NN (fun v g => cvt false g v) (nrm (.l 5) a0) a1 [] = some v) (h : Hp) : F_journey_Messages [a0, a1] h = some ((nrmR [.l 7, .o] v), h) := by
  have e : (R_journey_Messages (nrms [.l 5, .o] [a0, a1]) []).bind (fun (p : AV × Hp) => cvt false p.2 p.1) = some v := (R_journey_Messages_eq (fun v g => cvt false g v) (nrm (.l 5) a0) a1 []).trans hv
  exact (closedX_bind (shr := [.l 7, .o]) ha e h).trans (congrArg (fun x => some (x, h)) rfl)
theorem F_journey_Messages_own {a0 : AV} {a1 : AV} {x0 : AV} {x1 : AV} {h : Hp} {v : AV} (ha : cvts false h [x0, x1] = some [a0, a1]) (hv : ∀ st, f_journey_Messages Try.prog t_journey_Messages d_journey_Messages NN (fun v g => cvt st g v) (nrm (.l 5) a0) a1 [] = some v) : F_journey_Messages [x0, x1] h = some ((nrmR [.l 7, .o] v), h) := by
  have e : ∀ st, (R_journey_Messages (nrms [.l 5, .o] [a0, a1]) []).bind (fun (p : AV × Hp) => cvt st p.2 p.1) = some v := fun st => (R_journey_Messages_eq (fun v g => cvt st g v) (nrm (.l 5) a0) a1 []).trans (hv st)
  exact (closedX_ownB (shr := [.l 7, .o]) ha e).trans (congrArg (fun x => some (x, h)) rfl)
/-! spile/spilelaw45.awake -/
noncomputable def t_law45_awake : Tab := (updF (updF (updF (updF (updF (updF (updF T0 13 F_journey_Transit) 16 F_journey_Claim) 18 F_journey_Run) 24 F_law45_example) 25 F_journey_Days) 26 F_law45_table) 27 F_journey_Messages)
theorem t_law45_awake_ok : TSound Try.prog t_law45_awake := (TSound.upd (TSound.upd (TSound.upd (TSound.upd (TSound.upd (TSound.upd (TSound.upd TSound.zero F_journey_Transit_ok) F_journey_Claim_ok) F_journey_Run_ok) F_law45_example_ok) F_journey_Days_ok) F_law45_table_ok) F_journey_Messages_ok)
@[simp] theorem t_law45_awake_13 : t_law45_awake 13 = some F_journey_Transit := rfl
@[simp] theorem t_law45_awake_16 : t_law45_awake 16 = some F_journey_Claim := rfl
@[simp] theorem t_law45_awake_18 : t_law45_awake 18 = some F_journey_Run := rfl
@[simp] theorem t_law45_awake_24 : t_law45_awake 24 = some F_law45_example := rfl
@[simp] theorem t_law45_awake_25 : t_law45_awake 25 = some F_journey_Days := rfl
@[simp] theorem t_law45_awake_26 : t_law45_awake 26 = some F_law45_table := rfl
@[simp] theorem t_law45_awake_27 : t_law45_awake 27 = some F_journey_Messages := rfl
noncomputable def d_law45_awake : DTab := D0
theorem d_law45_awake_ok : DSound Try.prog d_law45_awake := DSound.zero
noncomputable def R_law45_awake : Fun := runF Try.prog t_law45_awake d_law45_awake NN [0, 1, 2, 3, 4, 5, 6, 7, 8, 9, 10, 11, 12] Try.f8 0
theorem R_law45_awake_ok : CSound Try.prog 8 R_law45_awake := run_sound t_law45_awake_ok d_law45_awake_ok mixed Try.func8 (by kernel_rfl) NN
theorem R_law45_awake_eq {β : Type} (K : AV → Hp → Option β) (h : Hp) : (R_law45_awake [] h).bind (fun p => K p.1 p.2) = f_law45_awake Try.prog t_law45_awake d_law45_awake NN K  h := by
  rw [← f_law45_awake_run]; exact runF_bind rfl
noncomputable def F_law45_awake : Fun := closedX [] [.o] R_law45_awake
theorem F_law45_awake_ok : CSound Try.prog 8 F_law45_awake := closedX_sound _ _ R_law45_awake_ok
noncomputable def G_law45_awake : DFun := closedXD [] [.o] R_law45_awake
theorem G_law45_awake_ro : Ro F_law45_awake G_law45_awake := closedX_ro _ _ _
theorem F_law45_awake_run {v : AV} (ha : plains [] = true) (hv : f_law45_awake Try.prog t_law45_awake d_law45_awake NN (fun v g => cvt false g v)  [] = some v) (h : Hp) : F_law45_awake [] h = some (v, h) := by
  have e : (R_law45_awake (nrms [] []) []).bind (fun (p : AV × Hp) => cvt false p.2 p.1) = some v := (R_law45_awake_eq (fun v g => cvt false g v)  []).trans hv
  exact (closedX_bind (shr := [.o]) ha e h).trans (congrArg (fun x => some (x, h)) (nrmR_rep 1 v))
/-! spile/spileref45.Few -/
noncomputable def t_ref45_Few : Tab := T0
theorem t_ref45_Few_ok : TSound Try.prog t_ref45_Few := TSound.zero
noncomputable def d_ref45_Few : DTab := D0
theorem d_ref45_Few_ok : DSound Try.prog d_ref45_Few := DSound.zero
noncomputable def R_ref45_Few : Fun := runF Try.prog t_ref45_Few d_ref45_Few NN [0, 2] Try.f11 1
theorem R_ref45_Few_ok : CSound Try.prog 11 R_ref45_Few := run_sound t_ref45_Few_ok d_ref45_Few_ok mixed Try.func11 (by kernel_rfl) NN
theorem R_ref45_Few_eq {β : Type} (K : AV → Hp → Option β) (a0 : AV) (h : Hp) : (R_ref45_Few [a0] h).bind (fun p => K p.1 p.2) = f_ref45_Few Try.prog t_ref45_Few d_ref45_Few NN K a0 h := by
  rw [← f_ref45_Few_run]; exact runF_bind rfl
noncomputable def F_ref45_Few : Fun := closedX [.l 5] [.o] R_ref45_Few
theorem F_ref45_Few_ok : CSound Try.prog 11 F_ref45_Few := closedX_sound _ _ R_ref45_Few_ok
noncomputable def G_ref45_Few : DFun := closedXD [.l 5] [.o] R_ref45_Few
theorem G_ref45_Few_ro : Ro F_ref45_Few G_ref45_Few := closedX_ro _ _ _
theorem F_ref45_Few_run {a0 : AV} {v : AV} (ha : plains [a0] = true) (hv : f_ref45_Few Try.prog t_ref45_Few d_ref45_Few NN (fun v g => cvt false g v) (nrm (.l 5) a0) [] = some v) (h : Hp) : F_ref45_Few [a0] h = some (v, h) := by
  have e : (R_ref45_Few (nrms [.l 5] [a0]) []).bind (fun (p : AV × Hp) => cvt false p.2 p.1) = some v := (R_ref45_Few_eq (fun v g => cvt false g v) (nrm (.l 5) a0) []).trans hv
  exact (closedX_bind (shr := [.o]) ha e h).trans (congrArg (fun x => some (x, h)) (nrmR_rep 1 v))
theorem F_ref45_Few_own {a0 : AV} {x0 : AV} {h : Hp} {v : AV} (ha : cvts false h [x0] = some [a0]) (hv : ∀ st, f_ref45_Few Try.prog t_ref45_Few d_ref45_Few NN (fun v g => cvt st g v) (nrm (.l 5) a0) [] = some v) : F_ref45_Few [x0] h = some (v, h) := by
  have e : ∀ st, (R_ref45_Few (nrms [.l 5] [a0]) []).bind (fun (p : AV × Hp) => cvt st p.2 p.1) = some v := fun st => (R_ref45_Few_eq (fun v g => cvt st g v) (nrm (.l 5) a0) []).trans (hv st)
  exact (closedX_ownB (shr := [.o]) ha e).trans (congrArg (fun x => some (x, h)) (nrmR_rep 1 v))
/-! spile/spilelaw45.JourneyTransits$1 -/
noncomputable def t_law45_JourneyTransits_1 : Tab := (updF T0 11 F_ref45_Few)
theorem t_law45_JourneyTransits_1_ok : TSound Try.prog t_law45_JourneyTransits_1 := (TSound.upd TSound.zero F_ref45_Few_ok)
@[simp] theorem t_law45_JourneyTransits_1_11 : t_law45_JourneyTransits_1 11 = some F_ref45_Few := rfl
noncomputable def d_law45_JourneyTransits_1 : DTab := D0
theorem d_law45_JourneyTransits_1_ok : DSound Try.prog d_law45_JourneyTransits_1 := DSound.zero
noncomputable def R_law45_JourneyTransits_1 : Fun := runF Try.prog t_law45_JourneyTransits_1 d_law45_JourneyTransits_1 NN [0, 2] Try.f10 1
theorem R_law45_JourneyTransits_1_ok : CSound Try.prog 10 R_law45_JourneyTransits_1 := run_sound t_law45_JourneyTransits_1_ok d_law45_JourneyTransits_1_ok mixed Try.func10 (by kernel_rfl) NN
theorem R_law45_JourneyTransits_1_eq {β : Type} (K : AV → Hp → Option β) (a0 : AV) (h : Hp) : (R_law45_JourneyTransits_1 [a0] h).bind (fun p => K p.1 p.2) = f_law45_JourneyTransits_1 Try.prog t_law45_JourneyTransits_1 d_law45_JourneyTransits_1 NN K a0 h := by
  rw [← f_law45_JourneyTransits_1_run]; exact runF_bind rfl
noncomputable def F_law45_JourneyTransits_1 : Fun := closedX [.l 5] [.o] R_law45_JourneyTransits_1
theorem F_law45_JourneyTransits_1_ok : CSound Try.prog 10 F_law45_JourneyTransits_1 := closedX_sound _ _ R_law45_JourneyTransits_1_ok
noncomputable def G_law45_JourneyTransits_1 : DFun := closedXD [.l 5] [.o] R_law45_JourneyTransits_1
theorem G_law45_JourneyTransits_1_ro : Ro F_law45_JourneyTransits_1 G_law45_JourneyTransits_1 := closedX_ro _ _ _
theorem F_law45_JourneyTransits_1_run {a0 : AV} {v : AV} (ha : plains [a0] = true) (hv : f_law45_JourneyTransits_1 Try.prog t_law45_JourneyTransits_1 d_law45_JourneyTransits_1 NN (fun v g => cvt false g v) (nrm (.l 5) a0) [] = some v) (h : Hp) : F_law45_JourneyTransits_1 [a0] h = some (v, h) := by
  have e : (R_law45_JourneyTransits_1 (nrms [.l 5] [a0]) []).bind (fun (p : AV × Hp) => cvt false p.2 p.1) = some v := (R_law45_JourneyTransits_1_eq (fun v g => cvt false g v) (nrm (.l 5) a0) []).trans hv
  exact (closedX_bind (shr := [.o]) ha e h).trans (congrArg (fun x => some (x, h)) (nrmR_rep 1 v))
theorem F_law45_JourneyTransits_1_own {a0 : AV} {x0 : AV} {h : Hp} {v : AV} (ha : cvts false h [x0] = some [a0]) (hv : ∀ st, f_law45_JourneyTransits_1 Try.prog t_law45_JourneyTransits_1 d_law45_JourneyTransits_1 NN (fun v g => cvt st g v) (nrm (.l 5) a0) [] = some v) : F_law45_JourneyTransits_1 [x0] h = some (v, h) := by
  have e : ∀ st, (R_law45_JourneyTransits_1 (nrms [.l 5] [a0]) []).bind (fun (p : AV × Hp) => cvt st p.2 p.1) = some v := fun st => (R_law45_JourneyTransits_1_eq (fun v g => cvt st g v) (nrm (.l 5) a0) []).trans (hv st)
  exact (closedX_ownB (shr := [.o]) ha e).trans (congrArg (fun x => some (x, h)) (nrmR_rep 1 v))
/-! slices.IndexFunc[[][]spile/api.Leg,[]spile/api.Leg] : spile/spilelaw45.JourneyTransits$1 -/
noncomputable def t_slices_IndexFunc_Leg__law45_JourneyTransits_1 : Tab := (updF T0 10 F_law45_JourneyTransits_1)
theorem t_slices_IndexFunc_Leg__law45_JourneyTransits_1_ok : TSound Try.prog t_slices_IndexFunc_Leg__law45_JourneyTransits_1 := (TSound.upd TSound.zero F_law45_JourneyTransits_1_ok)
@[simp] theorem t_slices_IndexFunc_Leg__law45_JourneyTransits_1_10 : t_slices_IndexFunc_Leg__law45_JourneyTransits_1 10 = some F_law45_JourneyTransits_1 := rfl
noncomputable def d_slices_IndexFunc_Leg__law45_JourneyTransits_1 : DTab := D0
theorem d_slices_IndexFunc_Leg__law45_JourneyTransits_1_ok : DSound Try.prog d_slices_IndexFunc_Leg__law45_JourneyTransits_1 := DSound.zero
noncomputable def R_slices_IndexFunc_Leg__law45_JourneyTransits_1 : Fun := runF Try.prog t_slices_IndexFunc_Leg__law45_JourneyTransits_1 d_slices_IndexFunc_Leg__law45_JourneyTransits_1 NN [0, 1, 4, 5, 7, 8, 9, 16] Try.f28 2
theorem R_slices_IndexFunc_Leg__law45_JourneyTransits_1_ok : CSound Try.prog 28 R_slices_IndexFunc_Leg__law45_JourneyTransits_1 := run_sound t_slices_IndexFunc_Leg__law45_JourneyTransits_1_ok d_slices_IndexFunc_Leg__law45_JourneyTransits_1_ok mixed Try.func28 (by kernel_rfl) NN
theorem R_slices_IndexFunc_Leg__law45_JourneyTransits_1_eq {β : Type} (K : AV → Hp → Option β) (a0 : AV) (a1 : AV) (h : Hp) : (R_slices_IndexFunc_Leg__law45_JourneyTransits_1 [a0, a1] h).bind (fun p => K p.1 p.2) = f_slices_IndexFunc_Leg Try.prog t_slices_IndexFunc_Leg__law45_JourneyTransits_1 d_slices_IndexFunc_Leg__law45_JourneyTransits_1 NN K a0 a1 h := by
  rw [← f_slices_IndexFunc_Leg_run]; exact runF_bind rfl
noncomputable def F_slices_IndexFunc_Leg__law45_JourneyTransits_1 : Fun := closedX [.l 1, .o] [.o] R_slices_IndexFunc_Leg__law45_JourneyTransits_1
theorem F_slices_IndexFunc_Leg__law45_JourneyTransits_1_ok : CSound Try.prog 28 F_slices_IndexFunc_Leg__law45_JourneyTransits_1 := closedX_sound _ _ R_slices_IndexFunc_Leg__law45_JourneyTransits_1_ok
noncomputable def G_slices_IndexFunc_Leg__law45_JourneyTransits_1 : DFun := closedXD [.l 1, .o] [.o] R_slices_IndexFunc_Leg__law45_JourneyTransits_1
theorem G_slices_IndexFunc_Leg__law45_JourneyTransits_1_ro : Ro F_slices_IndexFunc_Leg__law45_JourneyTransits_1 G_slices_IndexFunc_Leg__law45_JourneyTransits_1 := closedX_ro _ _ _
theorem F_slices_IndexFunc_Leg__law45_JourneyTransits_1_run {a0 : AV} {a1 : AV} {v : AV} (ha : plains [a0, a1] = true) (hv : f_slices_IndexFunc_Leg Try.prog t_slices_IndexFunc_Leg__law45_JourneyTransits_1 d_slices_IndexFunc_Leg__law45_JourneyTransits_1 NN (fun v g => cvt false g v) (nrm (.l 1) a0) a1 [] = some v) (h : Hp) : F_slices_IndexFunc_Leg__law45_JourneyTransits_1 [a0, a1] h = some (v, h) := by
  have e : (R_slices_IndexFunc_Leg__law45_JourneyTransits_1 (nrms [.l 1, .o] [a0, a1]) []).bind (fun (p : AV × Hp) => cvt false p.2 p.1) = some v := (R_slices_IndexFunc_Leg__law45_JourneyTransits_1_eq (fun v g => cvt false g v) (nrm (.l 1) a0) a1 []).trans hv
  exact (closedX_bind (shr := [.o]) ha e h).trans (congrArg (fun x => some (x, h)) (nrmR_rep 1 v))
theorem F_slices_IndexFunc_Leg__law45_JourneyTransits_1_own {a0 : AV} {a1 : AV} {x0 : AV} {x1 : AV} {h : Hp} {v : AV} (ha : cvts false h [x0, x1] = some [a0, a1]) (hv : ∀ st, f_slices_IndexFunc_Leg Try.prog t_slices_IndexFunc_Leg__law45_JourneyTransits_1 d_slices_IndexFunc_Leg__law45_JourneyTransits_1 NN (fun v g => cvt st g v) (nrm (.l 1) a0) a1 [] = some v) : F_slices_IndexFunc_Leg__law45_JourneyTransits_1 [x0, x1] h = some (v, h) := by
  have e : ∀ st, (R_slices_IndexFunc_Leg__law45_JourneyTransits_1 (nrms [.l 1, .o] [a0, a1]) []).bind (fun (p : AV × Hp) => cvt st p.2 p.1) = some v := fun st => (R_slices_IndexFunc_Leg__law45_JourneyTransits_1_eq (fun v g => cvt st g v) (nrm (.l 1) a0) a1 []).trans (hv st)
  exact (closedX_ownB (shr := [.o]) ha e).trans (congrArg (fun x => some (x, h)) (nrmR_rep 1 v))
/-! slices.ContainsFunc[[][]spile/api.Leg,[]spile/api.Leg] : spile/spilelaw45.JourneyTransits$1 -/
noncomputable def t_slices_ContainsFunc_Leg__law45_JourneyTransits_1 : Tab := (updF T0 28 F_slices_IndexFunc_Leg__law45_JourneyTransits_1)
theorem t_slices_ContainsFunc_Leg__law45_JourneyTransits_1_ok : TSound Try.prog t_slices_ContainsFunc_Leg__law45_JourneyTransits_1 := (TSound.upd TSound.zero F_slices_IndexFunc_Leg__law45_JourneyTransits_1_ok)
@[simp] theorem t_slices_ContainsFunc_Leg__law45_JourneyTransits_1_28 : t_slices_ContainsFunc_Leg__law45_JourneyTransits_1 28 = some F_slices_IndexFunc_Leg__law45_JourneyTransits_1 := rfl
noncomputable def d_slices_ContainsFunc_Leg__law45_JourneyTransits_1 : DTab := D0
theorem d_slices_ContainsFunc_Leg__law45_JourneyTransits_1_ok : DSound Try.prog d_slices_ContainsFunc_Leg__law45_JourneyTransits_1 := DSound.zero
noncomputable def R_slices_ContainsFunc_Leg__law45_JourneyTransits_1 : Fun := runF Try.prog t_slices_ContainsFunc_Leg__law45_JourneyTransits_1 d_slices_ContainsFunc_Leg__law45_JourneyTransits_1 NN [0, 1, 4] Try.f9 2
theorem R_slices_ContainsFunc_Leg__law45_JourneyTransits_1_ok : CSound Try.prog 9 R_slices_ContainsFunc_Leg__law45_JourneyTransits_1 := run_sound t_slices_ContainsFunc_Leg__law45_JourneyTransits_1_ok d_slices_ContainsFunc_Leg__law45_JourneyTransits_1_ok mixed Try.func9 (by kernel_rfl) NN
theorem R_slices_ContainsFunc_Leg__law45_JourneyTransits_1_eq {β : Type} (K : AV → Hp → Option β) (a0 : AV) (a1 : AV) (h : Hp) : (R_slices_ContainsFunc_Leg__law45_JourneyTransits_1 [a0, a1] h).bind (fun p => K p.1 p.2) = f_slices_ContainsFunc_Leg Try.prog t_slices_ContainsFunc_Leg__law45_JourneyTransits_1 d_slices_ContainsFunc_Leg__law45_JourneyTransits_1 NN K a0 a1 h := by
  rw [← f_slices_ContainsFunc_Leg_run]; exact runF_bind rfl
noncomputable def F_slices_ContainsFunc_Leg__law45_JourneyTransits_1 : Fun := closedX [.l 1, .o] [.o] R_slices_ContainsFunc_Leg__law45_JourneyTransits_1
theorem F_slices_ContainsFunc_Leg__law45_JourneyTransits_1_ok : CSound Try.prog 9 F_slices_ContainsFunc_Leg__law45_JourneyTransits_1 := closedX_sound _ _ R_slices_ContainsFunc_Leg__law45_JourneyTransits_1_ok
noncomputable def G_slices_ContainsFunc_Leg__law45_JourneyTransits_1 : DFun := closedXD [.l 1, .o] [.o] R_slices_ContainsFunc_Leg__law45_JourneyTransits_1
theorem G_slices_ContainsFunc_Leg__law45_JourneyTransits_1_ro : Ro F_slices_ContainsFunc_Leg__law45_JourneyTransits_1 G_slices_ContainsFunc_Leg__law45_JourneyTransits_1 := closedX_ro _ _ _
theorem F_slices_ContainsFunc_Leg__law45_JourneyTransits_1_run {a0 : AV} {a1 : AV} {v : AV} (ha : plains [a0, a1] = true) (hv : f_slices_ContainsFunc_Leg Try.prog t_slices_ContainsFunc_Leg__law45_JourneyTransits_1 d_slices_ContainsFunc_Leg__law45_JourneyTransits_1 NN (fun v g => cvt false g v) (nrm (.l 1) a0) a1 [] = some v) (h : Hp) : F_slices_ContainsFunc_Leg__law45_JourneyTransits_1 [a0, a1] h = some (v, h) := by
  have e : (R_slices_ContainsFunc_Leg__law45_JourneyTransits_1 (nrms [.l 1, .o] [a0, a1]) []).bind (fun (p : AV × Hp) => cvt false p.2 p.1) = some v := (R_slices_ContainsFunc_Leg__law45_JourneyTransits_1_eq (fun v g => cvt false g v) (nrm (.l 1) a0) a1 []).trans hv
  exact (closedX_bind (shr := [.o]) ha e h).trans (congrArg (fun x => some (x, h)) (nrmR_rep 1 v))
theorem F_slices_ContainsFunc_Leg__law45_JourneyTransits_1_own {a0 : AV} {a1 : AV} {x0 : AV} {x1 : AV} {h : Hp} {v : AV} (ha : cvts false h [x0, x1] = some [a0, a1]) (hv : ∀ st, f_slices_ContainsFunc_Leg Try.prog t_slices_ContainsFunc_Leg__law45_JourneyTransits_1 d_slices_ContainsFunc_Leg__law45_JourneyTransits_1 NN (fun v g => cvt st g v) (nrm (.l 1) a0) a1 [] = some v) : F_slices_ContainsFunc_Leg__law45_JourneyTransits_1 [x0, x1] h = some (v, h) := by
  have e : ∀ st, (R_slices_ContainsFunc_Leg__law45_JourneyTransits_1 (nrms [.l 1, .o] [a0, a1]) []).bind (fun (p : AV × Hp) => cvt st p.2 p.1) = some v := fun st => (R_slices_ContainsFunc_Leg__law45_JourneyTransits_1_eq (fun v g => cvt st g v) (nrm (.l 1) a0) a1 []).trans (hv st)
  exact (closedX_ownB (shr := [.o]) ha e).trans (congrArg (fun x => some (x, h)) (nrmR_rep 1 v))
/-! slices.Clone[[]spile/api.Leg,spile/api.Leg] -/
noncomputable def t_slices_Clone_Leg : Tab := T0
theorem t_slices_Clone_Leg_ok : TSound Try.prog t_slices_Clone_Leg := TSound.zero
noncomputable def d_slices_Clone_Leg : DTab := D0
theorem d_slices_Clone_Leg_ok : DSound Try.prog d_slices_Clone_Leg := DSound.zero
noncomputable def R_slices_Clone_Leg : Fun := runF Try.prog t_slices_Clone_Leg d_slices_Clone_Leg NN [0, 2, 4] Try.f12 1
theorem R_slices_Clone_Leg_ok : CSound Try.prog 12 R_slices_Clone_Leg := run_sound t_slices_Clone_Leg_ok d_slices_Clone_Leg_ok mixed Try.func12 (by kernel_rfl) NN
theorem R_slices_Clone_Leg_eq {β : Type} (K : AV → Hp → Option β) (a0 : AV) (h : Hp) : (R_slices_Clone_Leg [a0] h).bind (fun p => K p.1 p.2) = f_slices_Clone_Leg Try.prog t_slices_Clone_Leg d_slices_Clone_Leg NN K a0 h := by
  rw [← f_slices_Clone_Leg_run]; exact runF_bind rfl
noncomputable def F_slices_Clone_Leg : Fun := closedX [.l 5] [.l 5] R_slices_Clone_Leg
theorem F_slices_Clone_Leg_ok : CSound Try.prog 12 F_slices_Clone_Leg := closedX_sound _ _ R_slices_Clone_Leg_ok
noncomputable def G_slices_Clone_Leg : DFun := closedXD [.l 5] [.l 5] R_slices_Clone_Leg
theorem G_slices_Clone_Leg_ro : Ro F_slices_Clone_Leg G_slices_Clone_Leg := closedX_ro _ _ _
theorem F_slices_Clone_Leg_run {a0 : AV} {v : AV} (ha : plains [a0] = true) (hv : f_slices_Clone_Leg Try.prog t_slices_Clone_Leg d_slices_Clone_Leg NN (fun v g => cvt false g v) (nrm (.l 5) a0) [] = some v) (h : Hp) : F_slices_Clone_Leg [a0] h = some ((nrmR [.l 5] v), h) := by
  have e : (R_slices_Clone_Leg (nrms [.l 5] [a0]) []).bind (fun (p : AV × Hp) => cvt false p.2 p.1) = some v := (R_slices_Clone_Leg_eq (fun v g => cvt false g v) (nrm (.l 5) a0) []).trans hv
  exact (closedX_bind (shr := [.l 5]) ha e h).trans (congrArg (fun x => some (x, h)) rfl)
theorem F_slices_Clone_Leg_own {a0 : AV} {x0 : AV} {h : Hp} {v : AV} (ha : cvts false h [x0] = some [a0]) (hv : ∀ st, f_slices_Clone_Leg Try.prog t_slices_Clone_Leg d_slices_Clone_Leg NN (fun v g => cvt st g v) (nrm (.l 5) a0) [] = some v) : F_slices_Clone_Leg [x0] h = some ((nrmR [.l 5] v), h) := by
  have e : ∀ st, (R_slices_Clone_Leg (nrms [.l 5] [a0]) []).bind (fun (p : AV × Hp) => cvt st p.2 p.1) = some v := fun st => (R_slices_Clone_Leg_eq (fun v g => cvt st g v) (nrm (.l 5) a0) []).trans (hv st)
  exact (closedX_ownB (shr := [.l 5]) ha e).trans (congrArg (fun x => some (x, h)) rfl)
/-! spile/spileref40.Node -/
noncomputable def t_ref40_Node : Tab := T0
theorem t_ref40_Node_ok : TSound Try.prog t_ref40_Node := TSound.zero
noncomputable def d_ref40_Node : DTab := D0
theorem d_ref40_Node_ok : DSound Try.prog d_ref40_Node := DSound.zero
noncomputable def R_ref40_Node : Fun := runF Try.prog t_ref40_Node d_ref40_Node NN [0, 2] Try.f73 1
theorem R_ref40_Node_ok : CSound Try.prog 73 R_ref40_Node := run_sound t_ref40_Node_ok d_ref40_Node_ok mixed Try.func73 (by kernel_rfl) NN
theorem R_ref40_Node_eq {β : Type} (K : AV → Hp → Option β) (a0 : AV) (h : Hp) : (R_ref40_Node [a0] h).bind (fun p => K p.1 p.2) = f_ref40_Node Try.prog t_ref40_Node d_ref40_Node NN K a0 h := by
  rw [← f_ref40_Node_run]; exact runF_bind rfl
noncomputable def F_ref40_Node : Fun := closedX [.o] [.o] R_ref40_Node
theorem F_ref40_Node_ok : CSound Try.prog 73 F_ref40_Node := closedX_sound _ _ R_ref40_Node_ok
noncomputable def G_ref40_Node : DFun := closedXD [.o] [.o] R_ref40_Node
theorem G_ref40_Node_ro : Ro F_ref40_Node G_ref40_Node := closedX_ro _ _ _
theorem F_ref40_Node_run {a0 : AV} {v : AV} (ha : plains [a0] = true) (hv : f_ref40_Node Try.prog t_ref40_Node d_ref40_Node NN (fun v g => cvt false g v) a0 [] = some v) (h : Hp) : F_ref40_Node [a0] h = some (v, h) := by
  have e : (R_ref40_Node (nrms [.o] [a0]) []).bind (fun (p : AV × Hp) => cvt false p.2 p.1) = some v := (R_ref40_Node_eq (fun v g => cvt false g v) a0 []).trans hv
  exact (closedX_bind (shr := [.o]) ha e h).trans (congrArg (fun x => some (x, h)) (nrmR_rep 1 v))
theorem F_ref40_Node_own {a0 : AV} {x0 : AV} {h : Hp} {v : AV} (ha : cvts false h [x0] = some [a0]) (hv : ∀ st, f_ref40_Node Try.prog t_ref40_Node d_ref40_Node NN (fun v g => cvt st g v) a0 [] = some v) : F_ref40_Node [x0] h = some (v, h) := by
  have e : ∀ st, (R_ref40_Node (nrms [.o] [a0]) []).bind (fun (p : AV × Hp) => cvt st p.2 p.1) = some v := fun st => (R_ref40_Node_eq (fun v g => cvt st g v) a0 []).trans (hv st)
  exact (closedX_ownB (shr := [.o]) ha e).trans (congrArg (fun x => some (x, h)) (nrmR_rep 1 v))
/-! spile/spileref45.form -/
noncomputable def t_ref45_form : Tab := (updF T0 73 F_ref40_Node)
theorem t_ref45_form_ok : TSound Try.prog t_ref45_form := (TSound.upd TSound.zero F_ref40_Node_ok)
@[simp] theorem t_ref45_form_73 : t_ref45_form 73 = some F_ref40_Node := rfl
noncomputable def d_ref45_form : DTab := D0
theorem d_ref45_form_ok : DSound Try.prog d_ref45_form := DSound.zero
noncomputable def R_ref45_form : Fun := runF Try.prog t_ref45_form d_ref45_form NN [0, 1, 2, 3, 4, 14, 15, 35, 50, 65, 80, 94, 123] Try.f68 1
theorem R_ref45_form_ok : CSound Try.prog 68 R_ref45_form := run_sound t_ref45_form_ok d_ref45_form_ok mixed Try.func68 (by kernel_rfl) NN
theorem R_ref45_form_eq {β : Type} (K : AV → Hp → Option β) (a0 : AV) (h : Hp) : (R_ref45_form [a0] h).bind (fun p => K p.1 p.2) = f_ref45_form Try.prog t_ref45_form d_ref45_form NN K a0 h := by
  rw [← f_ref45_form_run]; exact runF_bind rfl
noncomputable def F_ref45_form : Fun := closedX [.o] [.o] R_ref45_form
theorem F_ref45_form_ok : CSound Try.prog 68 F_ref45_form := closedX_sound _ _ R_ref45_form_ok
noncomputable def G_ref45_form : DFun := closedXD [.o] [.o] R_ref45_form
theorem G_ref45_form_ro : Ro F_ref45_form G_ref45_form := closedX_ro _ _ _
theorem F_ref45_form_run {a0 : AV} {v : AV} (ha : plains [a0] = true) (hv : f_ref45_form Try.prog t_ref45_form d_ref45_form NN (fun v g => cvt false g v) a0 [] = some v) (h : Hp) : F_ref45_form [a0] h = some (v, h) := by
  have e : (R_ref45_form (nrms [.o] [a0]) []).bind (fun (p : AV × Hp) => cvt false p.2 p.1) = some v := (R_ref45_form_eq (fun v g => cvt false g v) a0 []).trans hv
  exact (closedX_bind (shr := [.o]) ha e h).trans (congrArg (fun x => some (x, h)) (nrmR_rep 1 v))
theorem F_ref45_form_own {a0 : AV} {x0 : AV} {h : Hp} {v : AV} (ha : cvts false h [x0] = some [a0]) (hv : ∀ st, f_ref45_form Try.prog t_ref45_form d_ref45_form NN (fun v g => cvt st g v) a0 [] = some v) : F_ref45_form [x0] h = some (v, h) := by
  have e : ∀ st, (R_ref45_form (nrms [.o] [a0]) []).bind (fun (p : AV × Hp) => cvt st p.2 p.1) = some v := fun st => (R_ref45_form_eq (fun v g => cvt st g v) a0 []).trans (hv st)
  exact (closedX_ownB (shr := [.o]) ha e).trans (congrArg (fun x => some (x, h)) (nrmR_rep 1 v))
/-! spile/spileref45.refused -/
noncomputable def t_ref45_refused : Tab := (updF T0 68 F_ref45_form)
theorem t_ref45_refused_ok : TSound Try.prog t_ref45_refused := (TSound.upd TSound.zero F_ref45_form_ok)
@[simp] theorem t_ref45_refused_68 : t_ref45_refused 68 = some F_ref45_form := rfl
noncomputable def d_ref45_refused : DTab := D0
theorem d_ref45_refused_ok : DSound Try.prog d_ref45_refused := DSound.zero
noncomputable def R_ref45_refused : Fun := runF Try.prog t_ref45_refused d_ref45_refused NN [0, 1, 2, 3, 5, 6, 7, 11, 27, 38, 60, 82, 92] Try.f41 3
theorem R_ref45_refused_ok : CSound Try.prog 41 R_ref45_refused := run_sound t_ref45_refused_ok d_ref45_refused_ok mixed Try.func41 (by kernel_rfl) NN
theorem R_ref45_refused_eq {β : Type} (K : AV → Hp → Option β) (a0 : AV) (a1 : AV) (a2 : AV) (h : Hp) : (R_ref45_refused [a0, a1, a2] h).bind (fun p => K p.1 p.2) = f_ref45_refused Try.prog t_ref45_refused d_ref45_refused NN K a0 a1 a2 h := by
  rw [← f_ref45_refused_run]; exact runF_bind rfl
noncomputable def F_ref45_refused : Fun := closedX [.o, .l 5, .o] [.o] R_ref45_refused
theorem F_ref45_refused_ok : CSound Try.prog 41 F_ref45_refused := closedX_sound _ _ R_ref45_refused_ok
noncomputable def G_ref45_refused : DFun := closedXD [.o, .l 5, .o] [.o] R_ref45_refused
theorem G_ref45_refused_ro : Ro F_ref45_refused G_ref45_refused := closedX_ro _ _ _
theorem F_ref45_refused_run {a0 : AV} {a1 : AV} {a2 : AV} {v : AV} (ha : plains [a0, a1, a2] = true) (hv : f_ref45_refused Try.prog t_ref45_refused d_ref45_refused NN (fun v g => cvt false g v) a0 (nrm (.l 5) a1) a2 [] = some v) (h : Hp) : F_ref45_refused [a0, a1, a2] h = some (v, h) := by
  have e : (R_ref45_refused (nrms [.o, .l 5, .o] [a0, a1, a2]) []).bind (fun (p : AV × Hp) => cvt false p.2 p.1) = some v := (R_ref45_refused_eq (fun v g => cvt false g v) a0 (nrm (.l 5) a1) a2 []).trans hv
  exact (closedX_bind (shr := [.o]) ha e h).trans (congrArg (fun x => some (x, h)) (nrmR_rep 1 v))
theorem F_ref45_refused_own {a0 : AV} {a1 : AV} {a2 : AV} {x0 : AV} {x1 : AV} {x2 : AV} {h : Hp} {v : AV} (ha : cvts false h [x0, x1, x2] = some [a0, a1, a2]) (hv : ∀ st, f_ref45_refused Try.prog t_ref45_refused d_ref45_refused NN (fun v g => cvt st g v) a0 (nrm (.l 5) a1) a2 [] = some v) : F_ref45_refused [x0, x1, x2] h = some (v, h) := by
  have e : ∀ st, (R_ref45_refused (nrms [.o, .l 5, .o] [a0, a1, a2]) []).bind (fun (p : AV × Hp) => cvt st p.2 p.1) = some v := fun st => (R_ref45_refused_eq (fun v g => cvt st g v) a0 (nrm (.l 5) a1) a2 []).trans (hv st)
  exact (closedX_ownB (shr := [.o]) ha e).trans (congrArg (fun x => some (x, h)) (nrmR_rep 1 v))
/-! spile/spileref45.behind -/
noncomputable def t_ref45_behind : Tab := T0
theorem t_ref45_behind_ok : TSound Try.prog t_ref45_behind := TSound.zero
noncomputable def d_ref45_behind : DTab := D0
theorem d_ref45_behind_ok : DSound Try.prog d_ref45_behind := DSound.zero
noncomputable def R_ref45_behind : Fun := runF Try.prog t_ref45_behind d_ref45_behind NN [0, 1, 2, 3, 4, 6, 21, 32, 35, 38, 43, 57] Try.f42 2
theorem R_ref45_behind_ok : CSound Try.prog 42 R_ref45_behind := run_sound t_ref45_behind_ok d_ref45_behind_ok mixed Try.func42 (by kernel_rfl) NN
theorem R_ref45_behind_eq {β : Type} (K : AV → Hp → Option β) (a0 : AV) (a1 : AV) (h : Hp) : (R_ref45_behind [a0, a1] h).bind (fun p => K p.1 p.2) = f_ref45_behind Try.prog t_ref45_behind d_ref45_behind NN K a0 a1 h := by
  rw [← f_ref45_behind_run]; exact runF_bind rfl
noncomputable def F_ref45_behind : Fun := closedX [.o, .o] [.o] R_ref45_behind
theorem F_ref45_behind_ok : CSound Try.prog 42 F_ref45_behind := closedX_sound _ _ R_ref45_behind_ok
noncomputable def G_ref45_behind : DFun := closedXD [.o, .o] [.o] R_ref45_behind
theorem G_ref45_behind_ro : Ro F_ref45_behind G_ref45_behind := closedX_ro _ _ _
theorem F_ref45_behind_run {a0 : AV} {a1 : AV} {v : AV} (ha : plains [a0, a1] = true) (hv : f_ref45_behind Try.prog t_ref45_behind d_ref45_behind NN (fun v g => cvt false g v) a0 a1 [] = some v) (h : Hp) : F_ref45_behind [a0, a1] h = some (v, h) := by
  have e : (R_ref45_behind (nrms [.o, .o] [a0, a1]) []).bind (fun (p : AV × Hp) => cvt false p.2 p.1) = some v := (R_ref45_behind_eq (fun v g => cvt false g v) a0 a1 []).trans hv
  exact (closedX_bind (shr := [.o]) ha e h).trans (congrArg (fun x => some (x, h)) (nrmR_rep 1 v))
theorem F_ref45_behind_own {a0 : AV} {a1 : AV} {x0 : AV} {x1 : AV} {h : Hp} {v : AV} (ha : cvts false h [x0, x1] = some [a0, a1]) (hv : ∀ st, f_ref45_behind Try.prog t_ref45_behind d_ref45_behind NN (fun v g => cvt st g v) a0 a1 [] = some v) : F_ref45_behind [x0, x1] h = some (v, h) := by
  have e : ∀ st, (R_ref45_behind (nrms [.o, .o] [a0, a1]) []).bind (fun (p : AV × Hp) => cvt st p.2 p.1) = some v := fun st => (R_ref45_behind_eq (fun v g => cvt st g v) a0 a1 []).trans (hv st)
  exact (closedX_ownB (shr := [.o]) ha e).trans (congrArg (fun x => some (x, h)) (nrmR_rep 1 v))
/-! spile/spileref45.Run -/
noncomputable def t_ref45_Run : Tab := (updF (updF T0 41 F_ref45_refused) 42 F_ref45_behind)
theorem t_ref45_Run_ok : TSound Try.prog t_ref45_Run := (TSound.upd (TSound.upd TSound.zero F_ref45_refused_ok) F_ref45_behind_ok)
@[simp] theorem t_ref45_Run_41 : t_ref45_Run 41 = some F_ref45_refused := rfl
@[simp] theorem t_ref45_Run_42 : t_ref45_Run 42 = some F_ref45_behind := rfl
noncomputable def d_ref45_Run : DTab := D0
theorem d_ref45_Run_ok : DSound Try.prog d_ref45_Run := DSound.zero
noncomputable def R_ref45_Run : Fun := runF Try.prog t_ref45_Run d_ref45_Run NN [0, 2, 3, 4, 5, 6, 7, 10, 15, 28] Try.f19 1
theorem R_ref45_Run_ok : CSound Try.prog 19 R_ref45_Run := run_sound t_ref45_Run_ok d_ref45_Run_ok mixed Try.func19 (by kernel_rfl) NN
theorem R_ref45_Run_eq {β : Type} (K : AV → Hp → Option β) (a0 : AV) (h : Hp) : (R_ref45_Run [a0] h).bind (fun p => K p.1 p.2) = f_ref45_Run Try.prog t_ref45_Run d_ref45_Run NN K a0 h := by
  rw [← f_ref45_Run_run]; exact runF_bind rfl
noncomputable def F_ref45_Run : Fun := closedX [.l 5] [.o, .o, .o] R_ref45_Run
theorem F_ref45_Run_ok : CSound Try.prog 19 F_ref45_Run := closedX_sound _ _ R_ref45_Run_ok
noncomputable def G_ref45_Run : DFun := closedXD [.l 5] [.o, .o, .o] R_ref45_Run
theorem G_ref45_Run_ro : Ro F_ref45_Run G_ref45_Run := closedX_ro _ _ _
theorem F_ref45_Run_run {a0 : AV} {v : AV} (ha : plains [a0] = true) (hv : f_ref45_Run Try.prog t_ref45_Run d_ref45_Run NN (fun v g => cvt false g v) (nrm (.l 5) a0) [] = some v) (h : Hp) : F_ref45_Run [a0] h = some (v, h) := by
  have e : (R_ref45_Run (nrms [.l 5] [a0]) []).bind (fun (p : AV × Hp) => cvt false p.2 p.1) = some v := (R_ref45_Run_eq (fun v g => cvt false g v) (nrm (.l 5) a0) []).trans hv
  exact (closedX_bind (shr := [.o, .o, .o]) ha e h).trans (congrArg (fun x => some (x, h)) (nrmR_rep 3 v))
theorem F_ref45_Run_own {a0 : AV} {x0 : AV} {h : Hp} {v : AV} (ha : cvts false h [x0] = some [a0]) (hv : ∀ st, f_ref45_Run Try.prog t_ref45_Run d_ref45_Run NN (fun v g => cvt st g v) (nrm (.l 5) a0) [] = some v) : F_ref45_Run [x0] h = some (v, h) := by
  have e : ∀ st, (R_ref45_Run (nrms [.l 5] [a0]) []).bind (fun (p : AV × Hp) => cvt st p.2 p.1) = some v := fun st => (R_ref45_Run_eq (fun v g => cvt st g v) (nrm (.l 5) a0) []).trans (hv st)
  exact (closedX_ownB (shr := [.o, .o, .o]) ha e).trans (congrArg (fun x => some (x, h)) (nrmR_rep 3 v))
/-! spile/spileref45.right -/
noncomputable def t_ref45_right : Tab := (updF T0 19 F_ref45_Run)
theorem t_ref45_right_ok : TSound Try.prog t_ref45_right := (TSound.upd TSound.zero F_ref45_Run_ok)
@[simp] theorem t_ref45_right_19 : t_ref45_right 19 = some F_ref45_Run := rfl
noncomputable def d_ref45_right : DTab := D0
theorem d_ref45_right_ok : DSound Try.prog d_ref45_right := DSound.zero
noncomputable def R_ref45_right : Fun := runF Try.prog t_ref45_right d_ref45_right NN [0, 2, 5] Try.f33 1
theorem R_ref45_right_ok : CSound Try.prog 33 R_ref45_right := run_sound t_ref45_right_ok d_ref45_right_ok mixed Try.func33 (by kernel_rfl) NN
theorem R_ref45_right_eq {β : Type} (K : AV → Hp → Option β) (a0 : AV) (h : Hp) : (R_ref45_right [a0] h).bind (fun p => K p.1 p.2) = f_ref45_right Try.prog t_ref45_right d_ref45_right NN K a0 h := by
  rw [← f_ref45_right_run]; exact runF_bind rfl
noncomputable def F_ref45_right : Fun := closedX [.l 5] [.o] R_ref45_right
theorem F_ref45_right_ok : CSound Try.prog 33 F_ref45_right := closedX_sound _ _ R_ref45_right_ok
noncomputable def G_ref45_right : DFun := closedXD [.l 5] [.o] R_ref45_right
theorem G_ref45_right_ro : Ro F_ref45_right G_ref45_right := closedX_ro _ _ _
theorem F_ref45_right_run {a0 : AV} {v : AV} (ha : plains [a0] = true) (hv : f_ref45_right Try.prog t_ref45_right d_ref45_right NN (fun v g => cvt false g v) (nrm (.l 5) a0) [] = some v) (h : Hp) : F_ref45_right [a0] h = some (v, h) := by
  have e : (R_ref45_right (nrms [.l 5] [a0]) []).bind (fun (p : AV × Hp) => cvt false p.2 p.1) = some v := (R_ref45_right_eq (fun v g => cvt false g v) (nrm (.l 5) a0) []).trans hv
  exact (closedX_bind (shr := [.o]) ha e h).trans (congrArg (fun x => some (x, h)) (nrmR_rep 1 v))
theorem F_ref45_right_own {a0 : AV} {x0 : AV} {h : Hp} {v : AV} (ha : cvts false h [x0] = some [a0]) (hv : ∀ st, f_ref45_right Try.prog t_ref45_right d_ref45_right NN (fun v g => cvt st g v) (nrm (.l 5) a0) [] = some v) : F_ref45_right [x0] h = some (v, h) := by
  have e : ∀ st, (R_ref45_right (nrms [.l 5] [a0]) []).bind (fun (p : AV × Hp) => cvt st p.2 p.1) = some v := fun st => (R_ref45_right_eq (fun v g => cvt st g v) (nrm (.l 5) a0) []).trans (hv st)
  exact (closedX_ownB (shr := [.o]) ha e).trans (congrArg (fun x => some (x, h)) (nrmR_rep 1 v))
/-! spile/spileref31.Day -/
noncomputable def t_ref31_Day : Tab := T0
theorem t_ref31_Day_ok : TSound Try.prog t_ref31_Day := TSound.zero
noncomputable def d_ref31_Day : DTab := D0
theorem d_ref31_Day_ok : DSound Try.prog d_ref31_Day := DSound.zero
noncomputable def R_ref31_Day : Fun := runF Try.prog t_ref31_Day d_ref31_Day NN [0, 2] Try.f34 1
theorem R_ref31_Day_ok : CSound Try.prog 34 R_ref31_Day := run_sound t_ref31_Day_ok d_ref31_Day_ok mixed Try.func34 (by kernel_rfl) NN
theorem R_ref31_Day_eq {β : Type} (K : AV → Hp → Option β) (a0 : AV) (h : Hp) : (R_ref31_Day [a0] h).bind (fun p => K p.1 p.2) = f_ref31_Day Try.prog t_ref31_Day d_ref31_Day NN K a0 h := by
  rw [← f_ref31_Day_run]; exact runF_bind rfl
noncomputable def F_ref31_Day : Fun := closedX [.o] [.o] R_ref31_Day
theorem F_ref31_Day_ok : CSound Try.prog 34 F_ref31_Day := closedX_sound _ _ R_ref31_Day_ok
noncomputable def G_ref31_Day : DFun := closedXD [.o] [.o] R_ref31_Day
theorem G_ref31_Day_ro : Ro F_ref31_Day G_ref31_Day := closedX_ro _ _ _
theorem F_ref31_Day_run {a0 : AV} {v : AV} (ha : plains [a0] = true) (hv : f_ref31_Day Try.prog t_ref31_Day d_ref31_Day NN (fun v g => cvt false g v) a0 [] = some v) (h : Hp) : F_ref31_Day [a0] h = some (v, h) := by
  have e : (R_ref31_Day (nrms [.o] [a0]) []).bind (fun (p : AV × Hp) => cvt false p.2 p.1) = some v := (R_ref31_Day_eq (fun v g => cvt false g v) a0 []).trans hv
  exact (closedX_bind (shr := [.o]) ha e h).trans (congrArg (fun x => some (x, h)) (nrmR_rep 1 v))
theorem F_ref31_Day_own {a0 : AV} {x0 : AV} {h : Hp} {v : AV} (ha : cvts false h [x0] = some [a0]) (hv : ∀ st, f_ref31_Day Try.prog t_ref31_Day d_ref31_Day NN (fun v g => cvt st g v) a0 [] = some v) : F_ref31_Day [x0] h = some (v, h) := by
  have e : ∀ st, (R_ref31_Day (nrms [.o] [a0]) []).bind (fun (p : AV × Hp) => cvt st p.2 p.1) = some v := fun st => (R_ref31_Day_eq (fun v g => cvt st g v) a0 []).trans (hv st)
  exact (closedX_ownB (shr := [.o]) ha e).trans (congrArg (fun x => some (x, h)) (nrmR_rep 1 v))
/-! spile/spileref45.at -/
noncomputable def t_ref45_at : Tab := (updF T0 42 F_ref45_behind)
theorem t_ref45_at_ok : TSound Try.prog t_ref45_at := (TSound.upd TSound.zero F_ref45_behind_ok)
@[simp] theorem t_ref45_at_42 : t_ref45_at 42 = some F_ref45_behind := rfl
noncomputable def d_ref45_at : DTab := D0
theorem d_ref45_at_ok : DSound Try.prog d_ref45_at := DSound.zero
noncomputable def R_ref45_at : Fun := runF Try.prog t_ref45_at d_ref45_at NN [0, 1, 4, 5, 6, 10, 19] Try.f35 2
theorem R_ref45_at_ok : CSound Try.prog 35 R_ref45_at := run_sound t_ref45_at_ok d_ref45_at_ok mixed Try.func35 (by kernel_rfl) NN
theorem R_ref45_at_eq {β : Type} (K : AV → Hp → Option β) (a0 : AV) (a1 : AV) (h : Hp) : (R_ref45_at [a0, a1] h).bind (fun p => K p.1 p.2) = f_ref45_at Try.prog t_ref45_at d_ref45_at NN K a0 a1 h := by
  rw [← f_ref45_at_run]; exact runF_bind rfl
noncomputable def F_ref45_at : Fun := closedX [.l 5, .o] [.o] R_ref45_at
theorem F_ref45_at_ok : CSound Try.prog 35 F_ref45_at := closedX_sound _ _ R_ref45_at_ok
noncomputable def G_ref45_at : DFun := closedXD [.l 5, .o] [.o] R_ref45_at
theorem G_ref45_at_ro : Ro F_ref45_at G_ref45_at := closedX_ro _ _ _
theorem F_ref45_at_run {a0 : AV} {a1 : AV} {v : AV} (ha : plains [a0, a1] = true) (hv : f_ref45_at Try.prog t_ref45_at d_ref45_at NN (fun v g => cvt false g v) (nrm (.l 5) a0) a1 [] = some v) (h : Hp) : F_ref45_at [a0, a1] h = some (v, h) := by
  have e : (R_ref45_at (nrms [.l 5, .o] [a0, a1]) []).bind (fun (p : AV × Hp) => cvt false p.2 p.1) = some v := (R_ref45_at_eq (fun v g => cvt false g v) (nrm (.l 5) a0) a1 []).trans hv
  exact (closedX_bind (shr := [.o]) ha e h).trans (congrArg (fun x => some (x, h)) (nrmR_rep 1 v))
theorem F_ref45_at_own {a0 : AV} {a1 : AV} {x0 : AV} {x1 : AV} {h : Hp} {v : AV} (ha : cvts false h [x0, x1] = some [a0, a1]) (hv : ∀ st, f_ref45_at Try.prog t_ref45_at d_ref45_at NN (fun v g => cvt st g v) (nrm (.l 5) a0) a1 [] = some v) : F_ref45_at [x0, x1] h = some (v, h) := by
  have e : ∀ st, (R_ref45_at (nrms [.l 5, .o] [a0, a1]) []).bind (fun (p : AV × Hp) => cvt st p.2 p.1) = some v := fun st => (R_ref45_at_eq (fun v g => cvt st g v) (nrm (.l 5) a0) a1 []).trans (hv st)
  exact (closedX_ownB (shr := [.o]) ha e).trans (congrArg (fun x => some (x, h)) (nrmR_rep 1 v))
/-! spile/spileref45.Transit -/
noncomputable def t_ref45_Transit : Tab := (updF (updF (updF T0 33 F_ref45_right) 34 F_ref31_Day) 35 F_ref45_at)
theorem t_ref45_Transit_ok : TSound Try.prog t_ref45_Transit := (TSound.upd (TSound.upd (TSound.upd TSound.zero F_ref45_right_ok) F_ref31_Day_ok) F_ref45_at_ok)
@[simp] theorem t_ref45_Transit_33 : t_ref45_Transit 33 = some F_ref45_right := rfl
@[simp] theorem t_ref45_Transit_34 : t_ref45_Transit 34 = some F_ref31_Day := rfl
@[simp] theorem t_ref45_Transit_35 : t_ref45_Transit 35 = some F_ref45_at := rfl
noncomputable def d_ref45_Transit : DTab := D0
theorem d_ref45_Transit_ok : DSound Try.prog d_ref45_Transit := DSound.zero
noncomputable def R_ref45_Transit : Fun := runF Try.prog t_ref45_Transit d_ref45_Transit NN [0, 1, 4, 5, 6, 7, 8, 11, 15, 23, 26, 30] Try.f14 2
theorem R_ref45_Transit_ok : CSound Try.prog 14 R_ref45_Transit := run_sound t_ref45_Transit_ok d_ref45_Transit_ok mixed Try.func14 (by kernel_rfl) NN
theorem R_ref45_Transit_eq {β : Type} (K : AV → Hp → Option β) (a0 : AV) (a1 : AV) (h : Hp) : (R_ref45_Transit [a0, a1] h).bind (fun p => K p.1 p.2) = f_ref45_Transit Try.prog t_ref45_Transit d_ref45_Transit NN K a0 a1 h := by
  rw [← f_ref45_Transit_run]; exact runF_bind rfl
noncomputable def F_ref45_Transit : Fun := closedX [.l 1, .o] [.o, .o] R_ref45_Transit
theorem F_ref45_Transit_ok : CSound Try.prog 14 F_ref45_Transit := closedX_sound _ _ R_ref45_Transit_ok
noncomputable def G_ref45_Transit : DFun := closedXD [.l 1, .o] [.o, .o] R_ref45_Transit
theorem G_ref45_Transit_ro : Ro F_ref45_Transit G_ref45_Transit := closedX_ro _ _ _
theorem F_ref45_Transit_run {a0 : AV} {a1 : AV} {v : AV} (ha : plains [a0, a1] = true) (hv : f_ref45_Transit Try.prog t_ref45_Transit d_ref45_Transit NN (fun v g => cvt false g v) (nrm (.l 1) a0) a1 [] = some v) (h : Hp) : F_ref45_Transit [a0, a1] h = some (v, h) := by
  have e : (R_ref45_Transit (nrms [.l 1, .o] [a0, a1]) []).bind (fun (p : AV × Hp) => cvt false p.2 p.1) = some v := (R_ref45_Transit_eq (fun v g => cvt false g v) (nrm (.l 1) a0) a1 []).trans hv
  exact (closedX_bind (shr := [.o, .o]) ha e h).trans (congrArg (fun x => some (x, h)) (nrmR_rep 2 v))
theorem F_ref45_Transit_own {a0 : AV} {a1 : AV} {x0 : AV} {x1 : AV} {h : Hp} {v : AV} (ha : cvts false h [x0, x1] = some [a0, a1]) (hv : ∀ st, f_ref45_Transit Try.prog t_ref45_Transit d_ref45_Transit NN (fun v g => cvt st g v) (nrm (.l 1) a0) a1 [] = some v) : F_ref45_Transit [x0, x1] h = some (v, h) := by
  have e : ∀ st, (R_ref45_Transit (nrms [.l 1, .o] [a0, a1]) []).bind (fun (p : AV × Hp) => cvt st p.2 p.1) = some v := fun st => (R_ref45_Transit_eq (fun v g => cvt st g v) (nrm (.l 1) a0) a1 []).trans (hv st)
  exact (closedX_ownB (shr := [.o, .o]) ha e).trans (congrArg (fun x => some (x, h)) (nrmR_rep 2 v))
/-! spile/spilelaw45.JourneyTransits -/
noncomputable def t_law45_JourneyTransits : Tab := (updF (updF (updF (updF (updF (updF T0 8 F_law45_awake) 9 F_slices_ContainsFunc_Leg__law45_JourneyTransits_1) 10 F_law45_JourneyTransits_1) 12 F_slices_Clone_Leg) 13 F_journey_Transit) 14 F_ref45_Transit)
theorem t_law45_JourneyTransits_ok : TSound Try.prog t_law45_JourneyTransits := (TSound.upd (TSound.upd (TSound.upd (TSound.upd (TSound.upd (TSound.upd TSound.zero F_law45_awake_ok) F_slices_ContainsFunc_Leg__law45_JourneyTransits_1_ok) F_law45_JourneyTransits_1_ok) F_slices_Clone_Leg_ok) F_journey_Transit_ok) F_ref45_Transit_ok)
@[simp] theorem t_law45_JourneyTransits_8 : t_law45_JourneyTransits 8 = some F_law45_awake := rfl
@[simp] theorem t_law45_JourneyTransits_9 : t_law45_JourneyTransits 9 = some F_slices_ContainsFunc_Leg__law45_JourneyTransits_1 := rfl
@[simp] theorem t_law45_JourneyTransits_10 : t_law45_JourneyTransits 10 = some F_law45_JourneyTransits_1 := rfl
@[simp] theorem t_law45_JourneyTransits_12 : t_law45_JourneyTransits 12 = some F_slices_Clone_Leg := rfl
@[simp] theorem t_law45_JourneyTransits_13 : t_law45_JourneyTransits 13 = some F_journey_Transit := rfl
@[simp] theorem t_law45_JourneyTransits_14 : t_law45_JourneyTransits 14 = some F_ref45_Transit := rfl
noncomputable def d_law45_JourneyTransits : DTab := D0
theorem d_law45_JourneyTransits_ok : DSound Try.prog d_law45_JourneyTransits := DSound.zero
noncomputable def R_law45_JourneyTransits : Fun := runF Try.prog t_law45_JourneyTransits d_law45_JourneyTransits NN [0, 1, 4, 5, 7, 8, 9, 10, 11, 13, 25, 26, 27, 28, 29] Try.f3 2
theorem R_law45_JourneyTransits_ok : CSound Try.prog 3 R_law45_JourneyTransits := run_sound t_law45_JourneyTransits_ok d_law45_JourneyTransits_ok mixed Try.func3 (by kernel_rfl) NN
theorem R_law45_JourneyTransits_eq {β : Type} (K : AV → Hp → Option β) (a0 : AV) (a1 : AV) (h : Hp) : (R_law45_JourneyTransits [a0, a1] h).bind (fun p => K p.1 p.2) = f_law45_JourneyTransits Try.prog t_law45_JourneyTransits d_law45_JourneyTransits NN K a0 a1 h := by
  rw [← f_law45_JourneyTransits_run]; exact runF_bind rfl
noncomputable def F_law45_JourneyTransits : Fun := closedX [.l 1, .o] [.o] R_law45_JourneyTransits
theorem F_law45_JourneyTransits_ok : CSound Try.prog 3 F_law45_JourneyTransits := closedX_sound _ _ R_law45_JourneyTransits_ok
noncomputable def G_law45_JourneyTransits : DFun := closedXD [.l 1, .o] [.o] R_law45_JourneyTransits
theorem G_law45_JourneyTransits_ro : Ro F_law45_JourneyTransits G_law45_JourneyTransits := closedX_ro _ _ _
theorem F_law45_JourneyTransits_run {a0 : AV} {a1 : AV} {v : AV} (ha : plains [a0, a1] = true) (hv : f_law45_JourneyTransits Try.prog t_law45_JourneyTransits d_law45_JourneyTransits NN (fun v g => cvt false g v) (nrm (.l 1) a0) a1 [] = some v) (h : Hp) : F_law45_JourneyTransits [a0, a1] h = some (v, h) := by
  have e : (R_law45_JourneyTransits (nrms [.l 1, .o] [a0, a1]) []).bind (fun (p : AV × Hp) => cvt false p.2 p.1) = some v := (R_law45_JourneyTransits_eq (fun v g => cvt false g v) (nrm (.l 1) a0) a1 []).trans hv
  exact (closedX_bind (shr := [.o]) ha e h).trans (congrArg (fun x => some (x, h)) (nrmR_rep 1 v))
theorem F_law45_JourneyTransits_own {a0 : AV} {a1 : AV} {x0 : AV} {x1 : AV} {h : Hp} {v : AV} (ha : cvts false h [x0, x1] = some [a0, a1]) (hv : ∀ st, f_law45_JourneyTransits Try.prog t_law45_JourneyTransits d_law45_JourneyTransits NN (fun v g => cvt st g v) (nrm (.l 1) a0) a1 [] = some v) : F_law45_JourneyTransits [x0, x1] h = some (v, h) := by
  have e : ∀ st, (R_law45_JourneyTransits (nrms [.l 1, .o] [a0, a1]) []).bind (fun (p : AV × Hp) => cvt st p.2 p.1) = some v := fun st => (R_law45_JourneyTransits_eq (fun v g => cvt st g v) (nrm (.l 1) a0) a1 []).trans (hv st)
  exact (closedX_ownB (shr := [.o]) ha e).trans (congrArg (fun x => some (x, h)) (nrmR_rep 1 v))
/-! spile/spilelaw45.short -/
noncomputable def t_law45_short : Tab := (updF T0 11 F_ref45_Few)
theorem t_law45_short_ok : TSound Try.prog t_law45_short := (TSound.upd TSound.zero F_ref45_Few_ok)
@[simp] theorem t_law45_short_11 : t_law45_short 11 = some F_ref45_Few := rfl
noncomputable def d_law45_short : DTab := D0
theorem d_law45_short_ok : DSound Try.prog d_law45_short := DSound.zero
noncomputable def R_law45_short : Fun := runF Try.prog t_law45_short d_law45_short NN [0, 2] Try.f15 1
theorem R_law45_short_ok : CSound Try.prog 15 R_law45_short := run_sound t_law45_short_ok d_law45_short_ok mixed Try.func15 (by kernel_rfl) NN
theorem R_law45_short_eq {β : Type} (K : AV → Hp → Option β) (a0 : AV) (h : Hp) : (R_law45_short [a0] h).bind (fun p => K p.1 p.2) = f_law45_short Try.prog t_law45_short d_law45_short NN K a0 h := by
  rw [← f_law45_short_run]; exact runF_bind rfl
noncomputable def F_law45_short : Fun := closedX [.l 5] [.o] R_law45_short
theorem F_law45_short_ok : CSound Try.prog 15 F_law45_short := closedX_sound _ _ R_law45_short_ok
noncomputable def G_law45_short : DFun := closedXD [.l 5] [.o] R_law45_short
theorem G_law45_short_ro : Ro F_law45_short G_law45_short := closedX_ro _ _ _
theorem F_law45_short_run {a0 : AV} {v : AV} (ha : plains [a0] = true) (hv : f_law45_short Try.prog t_law45_short d_law45_short NN (fun v g => cvt false g v) (nrm (.l 5) a0) [] = some v) (h : Hp) : F_law45_short [a0] h = some (v, h) := by
  have e : (R_law45_short (nrms [.l 5] [a0]) []).bind (fun (p : AV × Hp) => cvt false p.2 p.1) = some v := (R_law45_short_eq (fun v g => cvt false g v) (nrm (.l 5) a0) []).trans hv
  exact (closedX_bind (shr := [.o]) ha e h).trans (congrArg (fun x => some (x, h)) (nrmR_rep 1 v))
theorem F_law45_short_own {a0 : AV} {x0 : AV} {h : Hp} {v : AV} (ha : cvts false h [x0] = some [a0]) (hv : ∀ st, f_law45_short Try.prog t_law45_short d_law45_short NN (fun v g => cvt st g v) (nrm (.l 5) a0) [] = some v) : F_law45_short [x0] h = some (v, h) := by
  have e : ∀ st, (R_law45_short (nrms [.l 5] [a0]) []).bind (fun (p : AV × Hp) => cvt st p.2 p.1) = some v := fun st => (R_law45_short_eq (fun v g => cvt st g v) (nrm (.l 5) a0) []).trans (hv st)
  exact (closedX_ownB (shr := [.o]) ha e).trans (congrArg (fun x => some (x, h)) (nrmR_rep 1 v))
/-! slices.Clone[[]spile/api.Allowance,spile/api.Allowance] -/
noncomputable def t_slices_Clone_Allowance : Tab := T0
theorem t_slices_Clone_Allowance_ok : TSound Try.prog t_slices_Clone_Allowance := TSound.zero
noncomputable def d_slices_Clone_Allowance : DTab := D0
theorem d_slices_Clone_Allowance_ok : DSound Try.prog d_slices_Clone_Allowance := DSound.zero
noncomputable def R_slices_Clone_Allowance : Fun := runF Try.prog t_slices_Clone_Allowance d_slices_Clone_Allowance NN [0, 2, 4] Try.f17 1
theorem R_slices_Clone_Allowance_ok : CSound Try.prog 17 R_slices_Clone_Allowance := run_sound t_slices_Clone_Allowance_ok d_slices_Clone_Allowance_ok mixed Try.func17 (by kernel_rfl) NN
theorem R_slices_Clone_Allowance_eq {β : Type} (K : AV → Hp → Option β) (a0 : AV) (h : Hp) : (R_slices_Clone_Allowance [a0] h).bind (fun p => K p.1 p.2) = f_slices_Clone_Allowance Try.prog t_slices_Clone_Allowance d_slices_Clone_Allowance NN K a0 h := by
  rw [← f_slices_Clone_Allowance_run]; exact runF_bind rfl
noncomputable def F_slices_Clone_Allowance : Fun := closedX [.l 4] [.l 4] R_slices_Clone_Allowance
theorem F_slices_Clone_Allowance_ok : CSound Try.prog 17 F_slices_Clone_Allowance := closedX_sound _ _ R_slices_Clone_Allowance_ok
noncomputable def G_slices_Clone_Allowance : DFun := closedXD [.l 4] [.l 4] R_slices_Clone_Allowance
theorem G_slices_Clone_Allowance_ro : Ro F_slices_Clone_Allowance G_slices_Clone_Allowance := closedX_ro _ _ _
theorem F_slices_Clone_Allowance_run {a0 : AV} {v : AV} (ha : plains [a0] = true) (hv : f_slices_Clone_Allowance Try.prog t_slices_Clone_Allowance d_slices_Clone_Allowance NN (fun v g => cvt false g v) (nrm (.l 4) a0) [] = some v) (h : Hp) : F_slices_Clone_Allowance [a0] h = some ((nrmR [.l 4] v), h) := by
  have e : (R_slices_Clone_Allowance (nrms [.l 4] [a0]) []).bind (fun (p : AV × Hp) => cvt false p.2 p.1) = some v := (R_slices_Clone_Allowance_eq (fun v g => cvt false g v) (nrm (.l 4) a0) []).trans hv
  exact (closedX_bind (shr := [.l 4]) ha e h).trans (congrArg (fun x => some (x, h)) rfl)
theorem F_slices_Clone_Allowance_own {a0 : AV} {x0 : AV} {h : Hp} {v : AV} (ha : cvts false h [x0] = some [a0]) (hv : ∀ st, f_slices_Clone_Allowance Try.prog t_slices_Clone_Allowance d_slices_Clone_Allowance NN (fun v g => cvt st g v) (nrm (.l 4) a0) [] = some v) : F_slices_Clone_Allowance [x0] h = some ((nrmR [.l 4] v), h) := by
  have e : ∀ st, (R_slices_Clone_Allowance (nrms [.l 4] [a0]) []).bind (fun (p : AV × Hp) => cvt st p.2 p.1) = some v := fun st => (R_slices_Clone_Allowance_eq (fun v g => cvt st g v) (nrm (.l 4) a0) []).trans (hv st)
  exact (closedX_ownB (shr := [.l 4]) ha e).trans (congrArg (fun x => some (x, h)) rfl)
/-! spile/spilelaw45.JourneyClaims -/
noncomputable def t_law45_JourneyClaims : Tab := (updF (updF (updF (updF (updF (updF T0 8 F_law45_awake) 12 F_slices_Clone_Leg) 15 F_law45_short) 16 F_journey_Claim) 17 F_slices_Clone_Allowance) 18 F_journey_Run)
theorem t_law45_JourneyClaims_ok : TSound Try.prog t_law45_JourneyClaims := (TSound.upd (TSound.upd (TSound.upd (TSound.upd (TSound.upd (TSound.upd TSound.zero F_law45_awake_ok) F_slices_Clone_Leg_ok) F_law45_short_ok) F_journey_Claim_ok) F_slices_Clone_Allowance_ok) F_journey_Run_ok)
@[simp] theorem t_law45_JourneyClaims_8 : t_law45_JourneyClaims 8 = some F_law45_awake := rfl
@[simp] theorem t_law45_JourneyClaims_12 : t_law45_JourneyClaims 12 = some F_slices_Clone_Leg := rfl
@[simp] theorem t_law45_JourneyClaims_15 : t_law45_JourneyClaims 15 = some F_law45_short := rfl
@[simp] theorem t_law45_JourneyClaims_16 : t_law45_JourneyClaims 16 = some F_journey_Claim := rfl
@[simp] theorem t_law45_JourneyClaims_17 : t_law45_JourneyClaims 17 = some F_slices_Clone_Allowance := rfl
@[simp] theorem t_law45_JourneyClaims_18 : t_law45_JourneyClaims 18 = some F_journey_Run := rfl
noncomputable def d_law45_JourneyClaims : DTab := D0
theorem d_law45_JourneyClaims_ok : DSound Try.prog d_law45_JourneyClaims := DSound.zero
noncomputable def R_law45_JourneyClaims : Fun := runF Try.prog t_law45_JourneyClaims d_law45_JourneyClaims NN [0, 1, 4, 5, 6, 7, 9, 10, 11, 13, 26, 43, 83] Try.f4 2
theorem R_law45_JourneyClaims_ok : CSound Try.prog 4 R_law45_JourneyClaims := run_sound t_law45_JourneyClaims_ok d_law45_JourneyClaims_ok mixed Try.func4 (by kernel_rfl) NN
theorem R_law45_JourneyClaims_eq {β : Type} (K : AV → Hp → Option β) (a0 : AV) (a1 : AV) (h : Hp) : (R_law45_JourneyClaims [a0, a1] h).bind (fun p => K p.1 p.2) = f_law45_JourneyClaims Try.prog t_law45_JourneyClaims d_law45_JourneyClaims NN K a0 a1 h := by
  rw [← f_law45_JourneyClaims_run]; exact runF_bind rfl
noncomputable def F_law45_JourneyClaims : Fun := closedX [.l 5, .l 4] [.o] R_law45_JourneyClaims
theorem F_law45_JourneyClaims_ok : CSound Try.prog 4 F_law45_JourneyClaims := closedX_sound _ _ R_law45_JourneyClaims_ok
noncomputable def G_law45_JourneyClaims : DFun := closedXD [.l 5, .l 4] [.o] R_law45_JourneyClaims
theorem G_law45_JourneyClaims_ro : Ro F_law45_JourneyClaims G_law45_JourneyClaims := closedX_ro _ _ _
theorem F_law45_JourneyClaims_run {a0 : AV} {a1 : AV} {v : AV} (ha : plains [a0, a1] = true) (hv : f_law45_JourneyClaims Try.prog t_law45_JourneyClaims d_law45_JourneyClaims NN (fun v g => cvt false g v) (nrm (.l 5) a0) (nrm (.l 4) a1) [] = some v) (h : Hp) : F_law45_JourneyClaims [a0, a1] h = some (v, h) := by
  have e : (R_law45_JourneyClaims (nrms [.l 5, .l 4] [a0, a1]) []).bind (fun (p : AV × Hp) => cvt false p.2 p.1) = some v := (R_law45_JourneyClaims_eq (fun v g => cvt false g v) (nrm (.l 5) a0) (nrm (.l 4) a1) []).trans hv
  exact (closedX_bind (shr := [.o]) ha e h).trans (congrArg (fun x => some (x, h)) (nrmR_rep 1 v))
theorem F_law45_JourneyClaims_own {a0 : AV} {a1 : AV} {x0 : AV} {x1 : AV} {h : Hp} {v : AV} (ha : cvts false h [x0, x1] = some [a0, a1]) (hv : ∀ st, f_law45_JourneyClaims Try.prog t_law45_JourneyClaims d_law45_JourneyClaims NN (fun v g => cvt st g v) (nrm (.l 5) a0) (nrm (.l 4) a1) [] = some v) : F_law45_JourneyClaims [x0, x1] h = some (v, h) := by
  have e : ∀ st, (R_law45_JourneyClaims (nrms [.l 5, .l 4] [a0, a1]) []).bind (fun (p : AV × Hp) => cvt st p.2 p.1) = some v := fun st => (R_law45_JourneyClaims_eq (fun v g => cvt st g v) (nrm (.l 5) a0) (nrm (.l 4) a1) []).trans (hv st)
  exact (closedX_ownB (shr := [.o]) ha e).trans (congrArg (fun x => some (x, h)) (nrmR_rep 1 v))
/-! spile/journey.At -/
noncomputable def t_journey_At : Tab := (updF (updF (updF T0 30 F_journey_right) 31 F_journey_in) 32 F_journey_at)
theorem t_journey_At_ok : TSound Try.prog t_journey_At := (TSound.upd (TSound.upd (TSound.upd TSound.zero F_journey_right_ok) F_journey_in_ok) F_journey_at_ok)
@[simp] theorem t_journey_At_30 : t_journey_At 30 = some F_journey_right := rfl
@[simp] theorem t_journey_At_31 : t_journey_At 31 = some F_journey_in := rfl
@[simp] theorem t_journey_At_32 : t_journey_At 32 = some F_journey_at := rfl
noncomputable def d_journey_At : DTab := D0
theorem d_journey_At_ok : DSound Try.prog d_journey_At := DSound.zero
noncomputable def R_journey_At : Fun := runF Try.prog t_journey_At d_journey_At NN [0, 1, 4, 5, 6, 11] Try.f20 2
theorem R_journey_At_ok : CSound Try.prog 20 R_journey_At := run_sound t_journey_At_ok d_journey_At_ok mixed Try.func20 (by kernel_rfl) NN
theorem R_journey_At_eq {β : Type} (K : AV → Hp → Option β) (a0 : AV) (a1 : AV) (h : Hp) : (R_journey_At [a0, a1] h).bind (fun p => K p.1 p.2) = f_journey_At Try.prog t_journey_At d_journey_At NN K a0 a1 h := by
  rw [← f_journey_At_run]; exact runF_bind rfl
noncomputable def F_journey_At : Fun := closedX [.l 5, .o] [.o, .o] R_journey_At
theorem F_journey_At_ok : CSound Try.prog 20 F_journey_At := closedX_sound _ _ R_journey_At_ok
noncomputable def G_journey_At : DFun := closedXD [.l 5, .o] [.o, .o] R_journey_At
theorem G_journey_At_ro : Ro F_journey_At G_journey_At := closedX_ro _ _ _
theorem F_journey_At_run {a0 : AV} {a1 : AV} {v : AV} (ha : plains [a0, a1] = true) (hv : f_journey_At Try.prog t_journey_At d_journey_At NN (fun v g => cvt false g v) (nrm (.l 5) a0) a1 [] = some v) (h : Hp) : F_journey_At [a0, a1] h = some (v, h) := by
  have e : (R_journey_At (nrms [.l 5, .o] [a0, a1]) []).bind (fun (p : AV × Hp) => cvt false p.2 p.1) = some v := (R_journey_At_eq (fun v g => cvt false g v) (nrm (.l 5) a0) a1 []).trans hv
  exact (closedX_bind (shr := [.o, .o]) ha e h).trans (congrArg (fun x => some (x, h)) (nrmR_rep 2 v))
theorem F_journey_At_own {a0 : AV} {a1 : AV} {x0 : AV} {x1 : AV} {h : Hp} {v : AV} (ha : cvts false h [x0, x1] = some [a0, a1]) (hv : ∀ st, f_journey_At Try.prog t_journey_At d_journey_At NN (fun v g => cvt st g v) (nrm (.l 5) a0) a1 [] = some v) : F_journey_At [x0, x1] h = some (v, h) := by
  have e : ∀ st, (R_journey_At (nrms [.l 5, .o] [a0, a1]) []).bind (fun (p : AV × Hp) => cvt st p.2 p.1) = some v := fun st => (R_journey_At_eq (fun v g => cvt st g v) (nrm (.l 5) a0) a1 []).trans (hv st)
  exact (closedX_ownB (shr := [.o, .o]) ha e).trans (congrArg (fun x => some (x, h)) (nrmR_rep 2 v))
/-! spile/spileref45.At -/
noncomputable def t_ref45_At : Tab := (updF (updF (updF T0 33 F_ref45_right) 34 F_ref31_Day) 35 F_ref45_at)
theorem t_ref45_At_ok : TSound Try.prog t_ref45_At := (TSound.upd (TSound.upd (TSound.upd TSound.zero F_ref45_right_ok) F_ref31_Day_ok) F_ref45_at_ok)
@[simp] theorem t_ref45_At_33 : t_ref45_At 33 = some F_ref45_right := rfl
@[simp] theorem t_ref45_At_34 : t_ref45_At 34 = some F_ref31_Day := rfl
@[simp] theorem t_ref45_At_35 : t_ref45_At 35 = some F_ref45_at := rfl
noncomputable def d_ref45_At : DTab := D0
theorem d_ref45_At_ok : DSound Try.prog d_ref45_At := DSound.zero
noncomputable def R_ref45_At : Fun := runF Try.prog t_ref45_At d_ref45_At NN [0, 1, 4, 5, 8, 12] Try.f21 2
theorem R_ref45_At_ok : CSound Try.prog 21 R_ref45_At := run_sound t_ref45_At_ok d_ref45_At_ok mixed Try.func21 (by kernel_rfl) NN
theorem R_ref45_At_eq {β : Type} (K : AV → Hp → Option β) (a0 : AV) (a1 : AV) (h : Hp) : (R_ref45_At [a0, a1] h).bind (fun p => K p.1 p.2) = f_ref45_At Try.prog t_ref45_At d_ref45_At NN K a0 a1 h := by
  rw [← f_ref45_At_run]; exact runF_bind rfl
noncomputable def F_ref45_At : Fun := closedX [.l 5, .o] [.o, .o] R_ref45_At
theorem F_ref45_At_ok : CSound Try.prog 21 F_ref45_At := closedX_sound _ _ R_ref45_At_ok
noncomputable def G_ref45_At : DFun := closedXD [.l 5, .o] [.o, .o] R_ref45_At
theorem G_ref45_At_ro : Ro F_ref45_At G_ref45_At := closedX_ro _ _ _
theorem F_ref45_At_run {a0 : AV} {a1 : AV} {v : AV} (ha : plains [a0, a1] = true) (hv : f_ref45_At Try.prog t_ref45_At d_ref45_At NN (fun v g => cvt false g v) (nrm (.l 5) a0) a1 [] = some v) (h : Hp) : F_ref45_At [a0, a1] h = some (v, h) := by
  have e : (R_ref45_At (nrms [.l 5, .o] [a0, a1]) []).bind (fun (p : AV × Hp) => cvt false p.2 p.1) = some v := (R_ref45_At_eq (fun v g => cvt false g v) (nrm (.l 5) a0) a1 []).trans hv
  exact (closedX_bind (shr := [.o, .o]) ha e h).trans (congrArg (fun x => some (x, h)) (nrmR_rep 2 v))
theorem F_ref45_At_own {a0 : AV} {a1 : AV} {x0 : AV} {x1 : AV} {h : Hp} {v : AV} (ha : cvts false h [x0, x1] = some [a0, a1]) (hv : ∀ st, f_ref45_At Try.prog t_ref45_At d_ref45_At NN (fun v g => cvt st g v) (nrm (.l 5) a0) a1 [] = some v) : F_ref45_At [x0, x1] h = some (v, h) := by
  have e : ∀ st, (R_ref45_At (nrms [.l 5, .o] [a0, a1]) []).bind (fun (p : AV × Hp) => cvt st p.2 p.1) = some v := fun st => (R_ref45_At_eq (fun v g => cvt st g v) (nrm (.l 5) a0) a1 []).trans (hv st)
  exact (closedX_ownB (shr := [.o, .o]) ha e).trans (congrArg (fun x => some (x, h)) (nrmR_rep 2 v))
/-! spile/spilelaw45.JourneyRuns -/
noncomputable def t_law45_JourneyRuns : Tab := (updF (updF (updF (updF (updF (updF (updF T0 8 F_law45_awake) 11 F_ref45_Few) 12 F_slices_Clone_Leg) 18 F_journey_Run) 19 F_ref45_Run) 20 F_journey_At) 21 F_ref45_At)
theorem t_law45_JourneyRuns_ok : TSound Try.prog t_law45_JourneyRuns := (TSound.upd (TSound.upd (TSound.upd (TSound.upd (TSound.upd (TSound.upd (TSound.upd TSound.zero F_law45_awake_ok) F_ref45_Few_ok) F_slices_Clone_Leg_ok) F_journey_Run_ok) F_ref45_Run_ok) F_journey_At_ok) F_ref45_At_ok)
@[simp] theorem t_law45_JourneyRuns_8 : t_law45_JourneyRuns 8 = some F_law45_awake := rfl
@[simp] theorem t_law45_JourneyRuns_11 : t_law45_JourneyRuns 11 = some F_ref45_Few := rfl
@[simp] theorem t_law45_JourneyRuns_12 : t_law45_JourneyRuns 12 = some F_slices_Clone_Leg := rfl
@[simp] theorem t_law45_JourneyRuns_18 : t_law45_JourneyRuns 18 = some F_journey_Run := rfl
@[simp] theorem t_law45_JourneyRuns_19 : t_law45_JourneyRuns 19 = some F_ref45_Run := rfl
@[simp] theorem t_law45_JourneyRuns_20 : t_law45_JourneyRuns 20 = some F_journey_At := rfl
@[simp] theorem t_law45_JourneyRuns_21 : t_law45_JourneyRuns 21 = some F_ref45_At := rfl
noncomputable def d_law45_JourneyRuns : DTab := D0
theorem d_law45_JourneyRuns_ok : DSound Try.prog d_law45_JourneyRuns := DSound.zero
noncomputable def R_law45_JourneyRuns : Fun := runF Try.prog t_law45_JourneyRuns d_law45_JourneyRuns NN [0, 1, 4, 5, 6, 7, 8, 9, 10, 11, 12, 13, 14, 16, 19] Try.f5 2
theorem R_law45_JourneyRuns_ok : CSound Try.prog 5 R_law45_JourneyRuns := run_sound t_law45_JourneyRuns_ok d_law45_JourneyRuns_ok mixed Try.func5 (by kernel_rfl) NN
theorem R_law45_JourneyRuns_eq {β : Type} (K : AV → Hp → Option β) (a0 : AV) (a1 : AV) (h : Hp) : (R_law45_JourneyRuns [a0, a1] h).bind (fun p => K p.1 p.2) = f_law45_JourneyRuns Try.prog t_law45_JourneyRuns d_law45_JourneyRuns NN K a0 a1 h := by
  rw [← f_law45_JourneyRuns_run]; exact runF_bind rfl
noncomputable def F_law45_JourneyRuns : Fun := closedX [.l 5, .o] [.o] R_law45_JourneyRuns
theorem F_law45_JourneyRuns_ok : CSound Try.prog 5 F_law45_JourneyRuns := closedX_sound _ _ R_law45_JourneyRuns_ok
noncomputable def G_law45_JourneyRuns : DFun := closedXD [.l 5, .o] [.o] R_law45_JourneyRuns
theorem G_law45_JourneyRuns_ro : Ro F_law45_JourneyRuns G_law45_JourneyRuns := closedX_ro _ _ _
theorem F_law45_JourneyRuns_run {a0 : AV} {a1 : AV} {v : AV} (ha : plains [a0, a1] = true) (hv : f_law45_JourneyRuns Try.prog t_law45_JourneyRuns d_law45_JourneyRuns NN (fun v g => cvt false g v) (nrm (.l 5) a0) a1 [] = some v) (h : Hp) : F_law45_JourneyRuns [a0, a1] h = some (v, h) := by
  have e : (R_law45_JourneyRuns (nrms [.l 5, .o] [a0, a1]) []).bind (fun (p : AV × Hp) => cvt false p.2 p.1) = some v := (R_law45_JourneyRuns_eq (fun v g => cvt false g v) (nrm (.l 5) a0) a1 []).trans hv
  exact (closedX_bind (shr := [.o]) ha e h).trans (congrArg (fun x => some (x, h)) (nrmR_rep 1 v))
theorem F_law45_JourneyRuns_own {a0 : AV} {a1 : AV} {x0 : AV} {x1 : AV} {h : Hp} {v : AV} (ha : cvts false h [x0, x1] = some [a0, a1]) (hv : ∀ st, f_law45_JourneyRuns Try.prog t_law45_JourneyRuns d_law45_JourneyRuns NN (fun v g => cvt st g v) (nrm (.l 5) a0) a1 [] = some v) : F_law45_JourneyRuns [x0, x1] h = some (v, h) := by
  have e : ∀ st, (R_law45_JourneyRuns (nrms [.l 5, .o] [a0, a1]) []).bind (fun (p : AV × Hp) => cvt st p.2 p.1) = some v := fun st => (R_law45_JourneyRuns_eq (fun v g => cvt st g v) (nrm (.l 5) a0) a1 []).trans (hv st)
  exact (closedX_ownB (shr := [.o]) ha e).trans (congrArg (fun x => some (x, h)) (nrmR_rep 1 v))
/-! spile/spilelaw45.JourneyCloses -/
noncomputable def t_law45_JourneyCloses : Tab := (updF (updF (updF T0 8 F_law45_awake) 12 F_slices_Clone_Leg) 20 F_journey_At)
theorem t_law45_JourneyCloses_ok : TSound Try.prog t_law45_JourneyCloses := (TSound.upd (TSound.upd (TSound.upd TSound.zero F_law45_awake_ok) F_slices_Clone_Leg_ok) F_journey_At_ok)
@[simp] theorem t_law45_JourneyCloses_8 : t_law45_JourneyCloses 8 = some F_law45_awake := rfl
@[simp] theorem t_law45_JourneyCloses_12 : t_law45_JourneyCloses 12 = some F_slices_Clone_Leg := rfl
@[simp] theorem t_law45_JourneyCloses_20 : t_law45_JourneyCloses 20 = some F_journey_At := rfl
noncomputable def d_law45_JourneyCloses : DTab := D0
theorem d_law45_JourneyCloses_ok : DSound Try.prog d_law45_JourneyCloses := DSound.zero
noncomputable def R_law45_JourneyCloses : Fun := runF Try.prog t_law45_JourneyCloses d_law45_JourneyCloses NN [0, 1, 4, 5, 6, 8, 11, 20, 60] Try.f6 2
theorem R_law45_JourneyCloses_ok : CSound Try.prog 6 R_law45_JourneyCloses := run_sound t_law45_JourneyCloses_ok d_law45_JourneyCloses_ok mixed Try.func6 (by kernel_rfl) NN
theorem R_law45_JourneyCloses_eq {β : Type} (K : AV → Hp → Option β) (a0 : AV) (a1 : AV) (h : Hp) : (R_law45_JourneyCloses [a0, a1] h).bind (fun p => K p.1 p.2) = f_law45_JourneyCloses Try.prog t_law45_JourneyCloses d_law45_JourneyCloses NN K a0 a1 h := by
  rw [← f_law45_JourneyCloses_run]; exact runF_bind rfl
noncomputable def F_law45_JourneyCloses : Fun := closedX [.l 5, .o] [.o] R_law45_JourneyCloses
theorem F_law45_JourneyCloses_ok : CSound Try.prog 6 F_law45_JourneyCloses := closedX_sound _ _ R_law45_JourneyCloses_ok
noncomputable def G_law45_JourneyCloses : DFun := closedXD [.l 5, .o] [.o] R_law45_JourneyCloses
theorem G_law45_JourneyCloses_ro : Ro F_law45_JourneyCloses G_law45_JourneyCloses := closedX_ro _ _ _
theorem F_law45_JourneyCloses_run {a0 : AV} {a1 : AV} {v : AV} (ha : plains [a0, a1] = true) (hv : f_law45_JourneyCloses Try.prog t_law45_JourneyCloses d_law45_JourneyCloses NN (fun v g => cvt false g v) (nrm (.l 5) a0) a1 [] = some v) (h : Hp) : F_law45_JourneyCloses [a0, a1] h = some (v, h) := by
  have e : (R_law45_JourneyCloses (nrms [.l 5, .o] [a0, a1]) []).bind (fun (p : AV × Hp) => cvt false p.2 p.1) = some v := (R_law45_JourneyCloses_eq (fun v g => cvt false g v) (nrm (.l 5) a0) a1 []).trans hv
  exact (closedX_bind (shr := [.o]) ha e h).trans (congrArg (fun x => some (x, h)) (nrmR_rep 1 v))
theorem F_law45_JourneyCloses_own {a0 : AV} {a1 : AV} {x0 : AV} {x1 : AV} {h : Hp} {v : AV} (ha : cvts false h [x0, x1] = some [a0, a1]) (hv : ∀ st, f_law45_JourneyCloses Try.prog t_law45_JourneyCloses d_law45_JourneyCloses NN (fun v g => cvt st g v) (nrm (.l 5) a0) a1 [] = some v) : F_law45_JourneyCloses [x0, x1] h = some (v, h) := by
  have e : ∀ st, (R_law45_JourneyCloses (nrms [.l 5, .o] [a0, a1]) []).bind (fun (p : AV × Hp) => cvt st p.2 p.1) = some v := fun st => (R_law45_JourneyCloses_eq (fun v g => cvt st g v) (nrm (.l 5) a0) a1 []).trans (hv st)
  exact (closedX_ownB (shr := [.o]) ha e).trans (congrArg (fun x => some (x, h)) (nrmR_rep 1 v))
end Go.AM

/-! The arithmetic under a division of 128 bits by 64 (Knuth's algorithm D with two digits). Plain natural numbers. -/
set_option linter.unusedVariables false
namespace Go.AM.Div
/-- One digit: x b + c over y, where y has two digits. -/
theorem le_iff {b y1 y0 x c q r : Nat} (hx : x = q * y1 + r) : q * (y1 * b + y0) ≤ x * b + c ↔ q * y0 ≤ b * r + c := by
  have e1 : q * (y1 * b + y0) = q * y1 * b + q * y0 := by rw [Nat.mul_add, Nat.mul_assoc]
  have e2 : x * b + c = q * y1 * b + (b * r + c) := by rw [hx, Nat.add_mul, Nat.mul_comm r b]; omega
  rw [e1, e2]
  omega
theorem start_le {b y1 y0 x c : Nat} (hb : 0 < b) (hy1 : 0 < y1) (hc : c < b) : (x * b + c) / (y1 * b + y0) ≤ x / y1 := by
  have hy : 0 < y1 * b + y0 := by have := Nat.mul_pos hy1 hb; omega
  rw [Nat.le_div_iff_mul_le hy1]
  generalize hQ : (x * b + c) / (y1 * b + y0) = Q
  have h1 : Q * (y1 * b + y0) ≤ x * b + c := by rw [← hQ]; exact Nat.div_mul_le_self _ _
  rcases Nat.lt_or_ge x (Q * y1) with h2 | h2
  · exfalso
    have h3 : (x + 1) * b ≤ Q * y1 * b := Nat.mul_le_mul_right _ h2
    rw [Nat.mul_add, ← Nat.mul_assoc] at h1
    rw [Nat.add_mul] at h3
    omega
  · exact h2
theorem lt_base {b y x c : Nat} (hc : c < b) (hx : x < y) : (x * b + c) / y < b := by
  rw [Nat.div_lt_iff_lt_mul (by omega)]
  have : (x + 1) * b ≤ y * b := Nat.mul_le_mul_right _ hx
  rw [Nat.add_mul] at this
  rw [Nat.mul_comm b y]
  omega
/-- The digit is not too great: then it is the quotient. -/
theorem digit_eq {b y1 y0 x c q r : Nat} (hy : 0 < y1 * b + y0) (hx : x = q * y1 + r) (hQ : (x * b + c) / (y1 * b + y0) ≤ q) (hle : q * y0 ≤ b * r + c) : q = (x * b + c) / (y1 * b + y0) := by
  have := (Nat.le_div_iff_mul_le hy).2 ((le_iff (c := c) (b := b) (y0 := y0) hx).2 hle)
  omega
/-- The digit is too great. -/
theorem digit_gt {b y1 y0 x c q r : Nat} (hy : 0 < y1 * b + y0) (hxy : x < y1 * b + y0) (hc : c < b) (hx : x = q * y1 + r) (hg : b ≤ q ∨ b * r + c < q * y0) : (x * b + c) / (y1 * b + y0) < q := by
  rcases hg with hg | hg
  · have := lt_base hc hxy; omega
  · rw [Nat.div_lt_iff_lt_mul hy]
    have := mt (le_iff (c := c) (b := b) (y0 := y0) hx).1 (by omega)
    omega
/-- The rest has a digit more: then it is the quotient. -/
theorem digit_big {b y1 y0 x c q r : Nat} (hb : 0 < b) (hy0 : y0 < b) (hy1 : 0 < y1) (hxy : x < y1 * b + y0) (hx : x = q * y1 + r) (hr : b ≤ r) (hQ : (x * b + c) / (y1 * b + y0) ≤ q) : q = (x * b + c) / (y1 * b + y0) := by
  have hy : 0 < y1 * b + y0 := by have := Nat.mul_pos hy1 hb; omega
  have hqb : q < b := by
    rcases Nat.lt_or_ge q b with h | h
    · exact h
    · exfalso
      have h1 : b * y1 ≤ q * y1 := Nat.mul_le_mul_right _ h
      rw [Nat.mul_comm b y1] at h1
      omega
  refine digit_eq hy hx hQ ?_
  have h1 : q * y0 ≤ b * b := Nat.mul_le_mul (by omega) (by omega)
  have h2 : b * b ≤ b * r := Nat.mul_le_mul_left _ hr
  omega
/-- Two digits, one behind the other. -/
theorem two_digits {b y x c1 c0 : Nat} (hb : 0 < b) (hc1 : c1 < b) (hc0 : c0 < b) (hy : 0 < y) (hx : x < y) :
    (x * b + c1) / y * b + ((x * b + c1) % y * b + c0) / y = (x * (b * b) + c1 * b + c0) / y ∧ ((x * b + c1) % y * b + c0) % y = (x * (b * b) + c1 * b + c0) % y := by
  have e : x * (b * b) + c1 * b + c0 = ((x * b + c1) % y * b + c0) + y * ((x * b + c1) / y * b) := by
    have h1 := Nat.mod_add_div (x * b + c1) y
    have h2 : (x * b + c1) * b = (x * b + c1) % y * b + y * ((x * b + c1) / y * b) := by
      have : ((x * b + c1) % y + y * ((x * b + c1) / y)) * b = (x * b + c1) % y * b + y * ((x * b + c1) / y * b) := by rw [Nat.add_mul, Nat.mul_assoc]
      rw [← this, h1]
    rw [Nat.add_mul, Nat.mul_assoc] at h2
    omega
  rw [e, Nat.add_mul_div_left _ _ hy, Nat.add_mul_mod_self_left]
  exact ⟨Nat.add_comm _ _, rfl⟩
/-- Numbers that are made greater by a power of two. -/
theorem scaled {u y s : Nat} (hs : 0 < s) : (u * s) / (y * s) = u / y ∧ (u * s) % (y * s) = u % y * s :=
  ⟨Nat.mul_div_mul_right _ _ hs, Nat.mul_mod_mul_right _ _ _⟩
end Go.AM.Div
