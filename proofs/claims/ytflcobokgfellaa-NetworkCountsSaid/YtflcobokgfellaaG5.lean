import Derived.Test.YtflcobokgfellaaG4
import Derived.Below
import Derived.ChangeOld
import Derived.Carry
import Derived.OpenShut
set_option linter.unusedSectionVars false
set_option linter.unusedVariables false
set_option linter.unusedSimpArgs false
set_option linter.constructorNameAsVariable false
namespace Go.AM
open Go.Proofs
set_option linter.unusedVariables false
set_option linter.unusedSimpArgs false
set_option linter.constructorNameAsVariable false
set_option maxRecDepth 20000
attribute [local congr] arithK_cg eqK_cg notK_cg convK_cg pickK_cg buildK_cg ldK_cg nilK_cg sliceK_cg faK_cg fldK_cg iaK_cg iaA_cg lookK_cg capK_cg exK_cg lenK_cg minK_cg maxK_cg effK_cg callK_cg callVK_cg effD_cg gopD_cg grpK_cg condK_cg cond_cg
theorem rangeX_ok {β : Type} {T : Tab} {F : Fun} {f : FuncId} {caps : List AV} {h h' : Hp} {m : Nat} {ps : Array Tmp} {asg body : Code} {ts : Tm} {v : AV} {pend : Option Code} {k : Option Code → Hp → Option β} (hT : T f = some F) (hF : F (.yl h.length :: caps) (h ++ [.loop m ps asg body ts .ready none]) = some (v, h')) (hl : h'[h.length]? = some (.loop m ps asg body ts .ready pend)) :
    rangeX T (.fn f caps) m ps asg body ts h k = k pend (h'.set h.length (.loop m ps asg body ts .exhausted pend)) := by
  unfold rangeX
  simp only [hT, callK_F, hF, hl]
theorem deliveries_raw {l : List Envl} {b : Bool} {sch : List Int} {b2 : Bool} {h : Hp} : F_network_deliveries [.lst 10 b (l.map encV), .lst 1 b2 (sch.map enI)] h = some (.fn 78 [.ptr (h.length + 1) 0 0 1, .ptr h.length 0 0 1], h ++ [.arr 1 [[.lst 10 b (l.map encV)]] true false, .arr 1 [[.lst 1 b2 (sch.map enI)]] true false]) := by
  rw [F_network_deliveries_raw]
  have b1 : ∀ (v : AV) (h : Hp) (k : AV → Hp → Option (AV × Hp)), cellsOf v = [v] → okC v = true → effK (boxE 1 v h.length) h k = k (.ptr h.length 0 0 1) (h ++ [.arr 1 [[v]] true false]) := fun v h k e1 e2 => by
    have := effK_box 1 h.length v h k rfl (by rw [e1]; rfl) (by rw [e1]; simp only [List.all_cons, List.all_nil, e2, Bool.and_self])
    rw [this, e1]
  unfold f_network_deliveries
  rw [b1 _ _ _ rfl rfl, b1 _ _ _ rfl rfl]
  simp
def toS (l : List Envl) (sch : List Int) (node : Int) : List Envl × Int := if askS l sch ≠ 0 then ([], askS l sch) else if isNode node = false then ([], 2) else (toL l sch node, 0)
def dlvV (l : List Envl) (sch : List Int) (node : Int) : AV := .tup [.lst 10 (toS l sch node).1.isEmpty ((toS l sch node).1.map encV), I (toS l sch node).2]
theorem to_run {l : List Envl} {b : Bool} {sch : List Int} {b2 : Bool} {node : Int} (hl : l.length < 1000000) (hs : sch.length < 1000000) : ∃ w, (∀ st, f_network_to Try.prog t_network_to d_network_to NN (fun v g => cvt st g v) (.lst 10 b (l.map encV)) (.lst 1 b2 (sch.map enI)) (I node) [] = some (.tup [w, I (toS l sch node).2])) ∧ nrm (.l 10) w = .lst 10 (toS l sch node).1.isEmpty ((toS l sch node).1.map encV) := by
  have fa := F_network_asked_val l b sch b2 hl hs
  have bx : ∀ k : AV → Hp → Option AV, effK (boxE 1 (I node) ([] : Hp).length) [] k = k (.ptr 0 0 0 1) [.arr 1 [[I node]] true false] := fun k => rfl
  have ld : ∀ k : Go.AM.K AV, ldK 1 false (.ptr 0 0 0 1) [.arr 1 [[I node]] true false] k = k (I node) := fun k => rfl
  have hnode : (decide (node < 1) || decide (node > 99)) = !isNode node := by
    unfold isNode
    by_cases h1 : node < 1
    · have h2 : ¬ 1 ≤ node := by omega
      simp [h1, h2]
    · have h2 : 1 ≤ node := by omega
      by_cases h3 : node > 99
      · have h4 : ¬ node ≤ 99 := by omega
        simp [h1, h2, h3, h4]
      · have h4 : node ≤ 99 := by omega
        simp [h1, h2, h3, h4]
  simp -implicitDefEqProofs only [f_network_to, bx, t_network_to_53, callK_F, fa, eqK_int, Bool.true_xor, condK_bool, ld, arithK_lss, arithK_gtr, grpK_or, hnode]
  by_cases q : askS l sch = 0
  · have e1 : (askS l sch == 0) = true := by simpa using q
    obtain ⟨-, k1, k2, k3⟩ := askS_ok q
    simp only [e1, Bool.not_true, Bool.false_eq_true, if_false]
    have hS : toS l sch node = if isNode node = false then ([], 2) else (toL l sch node, 0) := if_neg (by simp [q])
    cases hn : isNode node with
    | false =>
      have hS2 : toS l sch node = ([], 2) := by rw [hS, hn]; rfl
      rw [hS2]
      exact ⟨nilS, fun st => rfl, rfl⟩
    | true =>
      have hS2 : toS l sch node = (toL l sch node, 0) := by rw [hS, hn]; rfl
      rw [hS2]
      have b1 : ∀ k : AV → Hp → Option AV, effK (boxE 1 nilS ([.arr 1 [[I node]] true false] : Hp).length) [.arr 1 [[I node]] true false] k = k (.ptr 1 0 0 1) [.arr 1 [[I node]] true false, .arr 1 [[nilS]] true false] := fun k => rfl
      have fd := deliveries_raw (l := l) (b := b) (sch := sch) (b2 := b2) (h := [.arr 1 [[I node]] true false, .arr 1 [[nilS]] true false])
      have I0 : InvT l b sch b2 node [] [.arr 1 [[I node]] true false, .arr 1 [[nilS]] true false, .arr 1 [[.lst 10 b (l.map encV)]] true false, .arr 1 [[.lst 1 b2 (sch.map enI)]] true false, loopT .ready none] :=
        ⟨rfl, ⟨nilS, rfl, .nil, by simp, rfl⟩, rfl, rfl, rfl⟩
      obtain ⟨h', d1, d2⟩ := deliv_L2 (T := t_network_deliveries_1__network_to) (D := D0) (N := NN) (x0 := fun h => f_network_deliveries_1_j1 Try.prog t_network_deliveries_1__network_to D0 NN (fun v h => some (v, h)) h) (xr := fun h => some (.tup [], h)) (L := 4) (p1 := 2) (b2 := b2) (Inv := InvT l b sch b2 node) t_network_deliveries_1__network_to_Y hs k3 (fun pre h I => I.l2)
        (fun pre post s e h hc he I => to_round hc (by omega) he I) NN [] sch _ rfl (by have := NN_ge; omega) I0
      have hF : F_network_deliveries_1__network_to [.yl 4, .ptr 3 0 0 1, .ptr 2 0 0 1] [.arr 1 [[I node]] true false, .arr 1 [[nilS]] true false, .arr 1 [[.lst 10 b (l.map encV)]] true false, .arr 1 [[.lst 1 b2 (sch.map enI)]] true false, loopT .ready none] = some (.tup [], h') := by
        rw [F_network_deliveries_1__network_to_raw]
        have ls : ∀ k : Go.AM.K (AV × Hp), ldK 1 false (.ptr 3 0 0 1) [.arr 1 [[I node]] true false, .arr 1 [[nilS]] true false, .arr 1 [[.lst 10 b (l.map encV)]] true false, .arr 1 [[.lst 1 b2 (sch.map enI)]] true false, loopT .ready none] k = k (.lst 1 b2 (sch.map enI)) := fun k => rfl
        unfold f_network_deliveries_1
        rw [ls, lenK_lst, List.length_map]
        exact d1
      obtain ⟨-, ⟨v, g1, g2, g3, g4⟩, -, -, g5⟩ := d2
      have hcv := (g2.keep (h' := h'.set 4 (loopT .exhausted none)) fun k o' hk hko => getSetN hko (by have := g3 k hk; omega)).cvts (fun x st => by cases st <;> simp [encV, isS])
      obtain ⟨w, w1, w2⟩ := hcv
      refine ⟨w, fun st => ?_, w2⟩
      have gv : ∀ k : Go.AM.K AV, ldK 1 false (.ptr 1 0 0 1) (h'.set 4 (loopT .exhausted none)) k = k v := fun k => by rw [ldK_ptr, getSetN g1 (by decide)]; rfl
      simp -implicitDefEqProofs only [Bool.not_true, Bool.false_eq_true, if_false, b1, t_network_to_69, callK_F, fd]
      refine (rangeX_ok (h := [.arr 1 [[I node]] true false, .arr 1 [[nilS]] true false, .arr 1 [[.lst 10 b (l.map encV)]] true false, .arr 1 [[.lst 1 b2 (sch.map enI)]] true false]) t_network_to_78 hF g5).trans ?_
      show f_network_to_j1 Try.prog t_network_to d_network_to NN (fun v g => cvt st g v) (.ptr 1 0 0 1) (h'.set 4 (loopT .exhausted none)) = _
      simp -implicitDefEqProofs only [f_network_to_j1, gv]
      simp only [cvt_tup, cvts_cons, cvts_nil, w1, cvt_s]
      rfl
  · have e1 : (askS l sch == 0) = false := by simpa using q
    have hS2 : toS l sch node = ([], askS l sch) := if_pos q
    rw [hS2]
    refine ⟨nilS, fun st => ?_, rfl⟩
    simp only [e1, Bool.not_false, if_true]
    rfl
theorem F_network_to_at (l : List Envl) (b : Bool) (sch : List Int) {b2 : Bool} (node : Int) (hl : l.length < 1000000) (hs : sch.length < 1000000) {h : Hp} {v a : AV} (hv : cvt false h v = some a) (ha : nrm (.l 1) a = .lst 1 b2 (sch.map enI)) : F_network_to [.lst 10 b (l.map encV), v, I node] h = some (dlvV l sch node, h) := by
  obtain ⟨w, w1, w2⟩ := to_run (l := l) (b := b) (sch := sch) (b2 := b2) (node := node) hl hs
  refine (F_network_to_own (a0 := .lst 10 b (l.map encV)) (a1 := a) (a2 := I node) (by simp only [cvts_cons, cvts_nil, hv]; rfl) (fun st => by rw [ha]; exact w1 st)).trans ?_
  show some (AV.tup [nrm (.l 10) w, I (toS l sch node).2], h) = _
  rw [w2]; rfl
end Go.AM


namespace Go.AM
open Go.Proofs
set_option linter.unusedVariables false
set_option linter.unusedSimpArgs false
set_option linter.constructorNameAsVariable false
set_option maxRecDepth 20000
attribute [local congr] arithK_cg eqK_cg notK_cg convK_cg pickK_cg buildK_cg ldK_cg nilK_cg sliceK_cg faK_cg fldK_cg iaK_cg iaA_cg lookK_cg capK_cg exK_cg lenK_cg minK_cg maxK_cg effK_cg callK_cg callVK_cg effD_cg gopD_cg grpK_cg condK_cg cond_cg
def kvI (c : List (Int × Int)) : List (Value × AV) := c.map fun e => (Value.int .i64 e.1, I e.2)
def hasK (c : List (Int × Int)) (n : Int) : Bool := c.any fun e => e.1 == n
section
variable {β : Type} {P : Program} {kt : TypeId}
theorem lookupI (hu : P.underlying kt = some (.int .i64)) (n : Int) : ∀ c : List (Int × Int), ∃ r : Option AV, lookupKV (kvI c) (keyEq P kt) (.int .i64 n) = some r ∧ r.isSome = hasK c n
  | [] => ⟨none, rfl, rfl⟩
  | e :: c => by
    obtain ⟨r, h1, h2⟩ := lookupI hu n c
    simp only [kvI, List.map_cons, lookupKV, keyEq_int hu] at h1 ⊢
    by_cases q : n = e.1
    · refine ⟨some (I e.2), by simp [q], ?_⟩
      simp [hasK, q]
    · refine ⟨r, ?_, ?_⟩
      · simp only [q, decide_false]; exact h1
      · rw [h2]
        have : (e.1 == n) = false := by simpa using (fun h : e.1 = n => q h.symm)
        simp [hasK, this]
theorem lookI {h : Hp} {id : Nat} {c : List (Int × Int)} {z : AV} {n : Int} (hu : P.underlying kt = some (.int .i64)) (hid : h[id]? = some (.map (kvI c))) : ∃ v : AV, ∀ {β : Type} (k : K β), lookK P kt z true (.mp id) (I n) h k = k (.tup [v, B (hasK c n)]) := by
  obtain ⟨r, h1, h2⟩ := lookupI hu n c
  have e : toV (I n) = some (.int .i64 n) := rfl
  cases r with
  | none =>
    refine ⟨z, fun k => ?_⟩
    unfold lookK
    simp only [e, hid, keyOk_int hu, h1, if_true]
    rw [← h2]; rfl
  | some v =>
    refine ⟨v, fun k => ?_⟩
    unfold lookK
    simp only [e, hid, keyOk_int hu, h1, if_true]
    rw [← h2]; rfl
theorem updateI (hu : P.underlying kt = some (.int .i64)) (n v : Int) : ∀ c : List (Int × Int), hasK c n = false → updateKV (kvI c) (keyEq P kt) (.int .i64 n) (I v) = some (kvI (c ++ [(n, v)]))
  | [], _ => rfl
  | e :: c, h => by
    simp only [hasK, List.any_cons, Bool.or_eq_false_iff, beq_eq_false_iff_ne] at h
    have ih := updateI hu n v c h.2
    simp only [kvI, List.map_cons, List.cons_append, updateKV, keyEq_int hu] at ih ⊢
    have q : ¬ n = e.1 := fun q => h.1 q.symm
    simp [q, ih]
theorem mupI {h : Hp} {id : Nat} {c : List (Int × Int)} {n v : Int} (hu : P.underlying kt = some (.int .i64)) (hid : h[id]? = some (.map (kvI c))) (hc : hasK c n = false) : mupE P kt (.mp id) (I n) (I v) h = some (.u, ⟨[(id, .map (kvI (c ++ [(n, v)])))], [], [id]⟩) := by
  unfold mupE
  have e : toV (I n) = some (.int .i64 n) := rfl
  simp only [e, hid, keyOk_int hu, updateI hu n v c hc, if_true]
end
def fstP : List (Int × Int) → Nat → List Int → List (Int × Int)
  | c, _, [] => c
  | c, n, s :: r => if hasK c s = true then fstP c (n + 1) r else fstP (c ++ [(s, (n : Int))]) (n + 1) r
theorem fstP_snoc : ∀ (pre : List Int) (c : List (Int × Int)) (n : Nat) (s : Int), fstP c n (pre ++ [s]) = if hasK (fstP c n pre) s = true then fstP c n pre else fstP c n pre ++ [(s, ((n + pre.length : Nat) : Int))]
  | [], c, n, s => by
    show fstP c n [s] = if hasK c s = true then c else c ++ [(s, ((n + 0 : Nat) : Int))]
    rw [fstP]
    rfl
  | p :: pre, c, n, s => by
    have e : ((n + 1 + pre.length : Nat) : Int) = ((n + (p :: pre).length : Nat) : Int) := by simp; omega
    simp only [List.cons_append, fstP]
    split
    · rw [fstP_snoc pre, e]
    · rw [fstP_snoc pre, e]
abbrev fstS (sch : List Int) : List (Int × Int) := fstP [] 0 sch
noncomputable abbrev loopF (st : LoopState) (pd : Option Code) : AObj := .loop lpm_network_firsts_0 lpp_network_firsts_0 lpa_network_firsts_0 lpb_network_firsts_0 (envT [(5, .ptr 1 0 0 1), (6, .ptr 2 0 0 1)]) st pd
structure InvF (l : List Envl) (b : Bool) (pre : List Int) (h : Hp) : Prop where
  l0 : h[0]? = some (.map (kvI (fstS pre)))
  l1 : h[1]? = some (.arr 1 [[.mp 0]] true false)
  l2 : h[2]? = some (.arr 1 [[I pre.length]] true false)
  l3 : h[3]? = some (.arr 1 [[.lst 10 b (l.map encV)]] true false)
  l5 : h[5]? = some (loopF .ready none)
theorem first_round {l : List Envl} {b : Bool} {sch pre post : List Int} {s : Int} {e : Envl} {h : Hp} (hc : sch = pre ++ s :: post) (hl : sch.length < 100000) (hI : InvF l b pre h) :
    ∃ h', Y_network_firsts [ymark, .yl 5, I s, .agg (encV e)] h = some (B true, h') ∧ InvF l b (pre ++ [s]) h' := by
  obtain ⟨h0, h1, h2, h3, h5⟩ := hI
  rw [Y_network_firsts_R0 h5]
  have hpl : pre.length < sch.length := by rw [hc]; simp
  obtain ⟨x, hx⟩ : ∃ x, x = h.set 5 (loopF .busy none) := ⟨_, rfl⟩
  have keep : ∀ j o', h[j]? = some o' → j ≠ 5 → x[j]? = some o' := fun j o' hj hn => by rw [hx]; exact getSetN hj (Ne.symm hn)
  have z0 := keep 0 _ h0 (by decide)
  have z1 := keep 1 _ h1 (by decide)
  have z2 := keep 2 _ h2 (by decide)
  have z3 := keep 3 _ h3 (by decide)
  have z5 : x[5]? = some (loopF .busy none) := by rw [hx]; exact getSelfN h5
  have hb : ∀ k : Hp → Option (AV × Hp), beginX 5 lpm_network_firsts_0 lpp_network_firsts_0 lpa_network_firsts_0 lpb_network_firsts_0 (envT [(5, .ptr 1 0 0 1), (6, .ptr 2 0 0 1)]) h k = k x := fun k => by
    rw [hx]
    unfold beginX
    rw [h5]
  have e1 : ∀ k : Go.AM.K (AV × Hp), ldK 1 false (.ptr 1 0 0 1) x k = k (.mp 0) := fun k => by rw [ldK_ptr, z1]; rfl
  have e2 : ∀ k : Go.AM.K (AV × Hp), ldK 1 false (.ptr 2 0 0 1) x k = k (I pre.length) := fun k => by rw [ldK_ptr, z2]; rfl
  obtain ⟨lv, lk⟩ := lookI (z := .s (.int .i64 0)) (n := s) Try.underlying3 z0
  have hw : IntKind.i64.wrap ((pre.length : Int) + 1) = (((pre ++ [s]).length : Nat) : Int) := by rw [wrap64 (by omega) (by omega)]; simp
  have x0 : ∀ k : Go.AM.K (AV × Hp), exK (.tup [lv, B (hasK (fstS pre) s)]) 0 k = k lv := fun k => rfl
  have x1 : ∀ k : Go.AM.K (AV × Hp), exK (.tup [lv, B (hasK (fstS pre) s)]) 1 k = k (B (hasK (fstS pre) s)) := fun k => rfl
  have hsn : fstS (pre ++ [s]) = if hasK (fstS pre) s = true then fstS pre else fstS pre ++ [(s, (pre.length : Int))] := by rw [fstS, fstP_snoc]; simp
  have st2 : ∀ (y : Hp) (hy : y[2]? = some (.arr 1 [[I pre.length]] true false)) (k : AV → Hp → Option (AV × Hp)), effK (stE 1 (.ptr 2 0 0 1) (I (((pre ++ [s]).length : Nat) : Int)) y) y k = k .u (y.set 2 (.arr 1 [[I (((pre ++ [s]).length : Nat) : Int)]] true false)) := fun y hy k => effK_putg (v := .u) (ft := [2]) (by rw [stE_ptr, hy]; rfl) k
  have ld2 : ∀ (y : Hp) (hy : y[2]? = some (.arr 1 [[I pre.length]] true false)) (k : Go.AM.K (AV × Hp)), ldK 1 false (.ptr 2 0 0 1) y k = k (I pre.length) := fun y hy k => by rw [ldK_ptr, hy]; rfl
  cases hk : hasK (fstS pre) s with
  | true =>
    rw [hk] at lk x0 x1
    have st2x := st2 x z2
    have hs : ∀ j o', x[j]? = some o' → j ≠ 2 → j ≠ 5 → ((x.set 2 (.arr 1 [[I (((pre ++ [s]).length : Nat) : Int)]] true false)).set 5 (loopF .ready none))[j]? = some o' := fun j o' hj h3 h6 => getSetN (getSetN hj (Ne.symm h3)) (Ne.symm h6)
    refine ⟨(x.set 2 (.arr 1 [[I (((pre ++ [s]).length : Nat) : Int)]] true false)).set 5 (loopF .ready none), ?_, ?_, hs 1 _ z1 (by decide) (by decide), getSetN (getSelfN z2) (by decide), hs 3 _ z3 (by decide) (by decide), getSelfN (getSetN z5 (by decide))⟩
    · simp -implicitDefEqProofs only [f_network_firsts_R0, hb, e1, lk, x0, x1, notK_bool, Bool.not_true, condK_bool, Bool.false_eq_true, if_false, f_network_firsts_j2, e2, arithK_add, hw, st2x]
    · rw [hsn, if_pos hk]
      exact hs 0 _ z0 (by decide) (by decide)
  | false =>
    rw [hk] at lk x0 x1
    obtain ⟨y, hy⟩ : ∃ y, y = x.set 0 (.map (kvI (fstS pre ++ [(s, (pre.length : Int))]))) := ⟨_, rfl⟩
    have mu : ∀ k : AV → Hp → Option (AV × Hp), effK (mupE Try.prog 3 (.mp 0) (I s) (I pre.length) x) x k = k .u y := fun k => by
      rw [hy]
      exact effK_putg (mupI (v := (pre.length : Int)) Try.underlying3 z0 hk) k
    have y2 : y[2]? = some (.arr 1 [[I pre.length]] true false) := by rw [hy]; exact getSetN z2 (by decide)
    have hs : ∀ j o', y[j]? = some o' → j ≠ 2 → j ≠ 5 → ((y.set 2 (.arr 1 [[I (((pre ++ [s]).length : Nat) : Int)]] true false)).set 5 (loopF .ready none))[j]? = some o' := fun j o' hj h3 h6 => getSetN (getSetN hj (Ne.symm h3)) (Ne.symm h6)
    have yk : ∀ j o', x[j]? = some o' → j ≠ 0 → y[j]? = some o' := fun j o' hj hn => by rw [hy]; exact getSetN hj (Ne.symm hn)
    have st2y := st2 y y2
    have ld2y := ld2 y y2
    refine ⟨(y.set 2 (.arr 1 [[I (((pre ++ [s]).length : Nat) : Int)]] true false)).set 5 (loopF .ready none), ?_, ?_, hs 1 _ (yk 1 _ z1 (by decide)) (by decide) (by decide), getSetN (getSelfN y2) (by decide), hs 3 _ (yk 3 _ z3 (by decide)) (by decide) (by decide), getSelfN (getSetN (yk 5 _ z5 (by decide)) (by decide))⟩
    · simp -implicitDefEqProofs only [f_network_firsts_R0, hb, e1, lk, x0, x1, notK_bool, Bool.not_false, condK_bool, if_true, e2, mu, f_network_firsts_j2, ld2y, arithK_add, hw, st2y]
    · rw [hsn, hk]
      exact hs 0 _ (by rw [hy]; exact getSelfN z0) (by decide) (by decide)
theorem firsts_run {l : List Envl} {b : Bool} {sch : List Int} {b2 : Bool} (hs : sch.length < 100000) (hr : ∀ i ∈ sch, 0 ≤ i ∧ i < (l.length : Int)) : ∃ h', F_network_firsts [.lst 10 b (l.map encV), .lst 1 b2 (sch.map enI)] [] = some (.mp 0, h') ∧ h'[0]? = some (.map (kvI (fstS sch))) := by
  have em : ∀ k : AV → Hp → Option (AV × Hp), effK (some (.mp ([] : Hp).length, EN (.map []))) [] k = k (.mp 0) [.map []] := fun k => rfl
  have b1 : ∀ k : AV → Hp → Option (AV × Hp), effK (boxE 1 (.s (.map none)) ([.map []] : Hp).length) [.map []] k = k (.ptr 1 0 0 1) [.map [], .arr 1 [[.s (.map none)]] true false] := fun k => rfl
  have s1 : ∀ k : AV → Hp → Option (AV × Hp), effK (stE 1 (.ptr 1 0 0 1) (.mp 0) [.map [], .arr 1 [[.s (.map none)]] true false]) [.map [], .arr 1 [[.s (.map none)]] true false] k = k .u [.map [], .arr 1 [[.mp 0]] true false] := fun k => rfl
  have b2' : ∀ k : AV → Hp → Option (AV × Hp), effK (boxE 1 (.s (.int .i64 0)) ([.map [], .arr 1 [[.mp 0]] true false] : Hp).length) [.map [], .arr 1 [[.mp 0]] true false] k = k (.ptr 2 0 0 1) [.map [], .arr 1 [[.mp 0]] true false, .arr 1 [[I 0]] true false] := fun k => rfl
  have s2 : ∀ k : AV → Hp → Option (AV × Hp), effK (stE 1 (.ptr 2 0 0 1) (.s (.int .i64 0)) [.map [], .arr 1 [[.mp 0]] true false, .arr 1 [[I 0]] true false]) [.map [], .arr 1 [[.mp 0]] true false, .arr 1 [[I 0]] true false] k = k .u [.map [], .arr 1 [[.mp 0]] true false, .arr 1 [[I 0]] true false] := fun k => rfl
  have fd := deliveries_raw (l := l) (b := b) (sch := sch) (b2 := b2) (h := [.map [], .arr 1 [[.mp 0]] true false, .arr 1 [[I 0]] true false])
  have I0 : InvF l b [] [.map [], .arr 1 [[.mp 0]] true false, .arr 1 [[I 0]] true false, .arr 1 [[.lst 10 b (l.map encV)]] true false, .arr 1 [[.lst 1 b2 (sch.map enI)]] true false, loopF .ready none] := ⟨rfl, rfl, rfl, rfl, rfl⟩
  obtain ⟨h', d1, d2⟩ := deliv_L2 (T := t_network_deliveries_1__network_firsts) (D := D0) (N := NN) (x0 := fun h => f_network_deliveries_1_j1 Try.prog t_network_deliveries_1__network_firsts D0 NN (fun v h => some (v, h)) h) (xr := fun h => some (.tup [], h)) (L := 5) (p1 := 3) (b2 := b2) (Inv := InvF l b) t_network_deliveries_1__network_firsts_Y (by omega) hr (fun pre h I => I.l3)
    (fun pre post s e h hc he I => first_round hc hs I) NN [] sch _ rfl (by have := NN_ge; omega) I0
  have hF : F_network_deliveries_1__network_firsts [.yl 5, .ptr 4 0 0 1, .ptr 3 0 0 1] [.map [], .arr 1 [[.mp 0]] true false, .arr 1 [[I 0]] true false, .arr 1 [[.lst 10 b (l.map encV)]] true false, .arr 1 [[.lst 1 b2 (sch.map enI)]] true false, loopF .ready none] = some (.tup [], h') := by
    rw [F_network_deliveries_1__network_firsts_raw]
    have ls : ∀ k : Go.AM.K (AV × Hp), ldK 1 false (.ptr 4 0 0 1) [.map [], .arr 1 [[.mp 0]] true false, .arr 1 [[I 0]] true false, .arr 1 [[.lst 10 b (l.map encV)]] true false, .arr 1 [[.lst 1 b2 (sch.map enI)]] true false, loopF .ready none] k = k (.lst 1 b2 (sch.map enI)) := fun k => rfl
    unfold f_network_deliveries_1
    rw [ls, lenK_lst, List.length_map]
    exact d1
  obtain ⟨g0, g1, -, -, g5⟩ := d2
  refine ⟨h'.set 5 (loopF .exhausted none), ?_, getSetN g0 (by decide)⟩
  have gv : ∀ k : Go.AM.K (AV × Hp), ldK 1 false (.ptr 1 0 0 1) (h'.set 5 (loopF .exhausted none)) k = k (.mp 0) := fun k => by rw [ldK_ptr, getSetN g1 (by decide)]; rfl
  rw [F_network_firsts_raw]
  simp -implicitDefEqProofs only [f_network_firsts, em, b1, s1, b2', s2, t_network_firsts_69, callK_F, fd]
  refine (rangeX_ok (h := [.map [], .arr 1 [[.mp 0]] true false, .arr 1 [[I 0]] true false, .arr 1 [[.lst 10 b (l.map encV)]] true false, .arr 1 [[.lst 1 b2 (sch.map enI)]] true false]) t_network_firsts_78 hF g5).trans ?_
  show f_network_firsts_j1 Try.prog t_network_firsts d_network_firsts NN (fun v h => some (v, h)) (.ptr 1 0 0 1) (h'.set 5 (loopF .exhausted none)) = _
  simp -implicitDefEqProofs only [f_network_firsts_j1, gv]
end Go.AM


namespace Go.AM
open Go.Proofs
set_option linter.unusedVariables false
set_option linter.unusedSimpArgs false
set_option linter.constructorNameAsVariable false
set_option maxRecDepth 20000
attribute [local congr] arithK_cg eqK_cg notK_cg convK_cg pickK_cg buildK_cg ldK_cg nilK_cg sliceK_cg faK_cg fldK_cg iaK_cg iaA_cg lookK_cg capK_cg exK_cg lenK_cg minK_cg maxK_cg effK_cg callK_cg callVK_cg effD_cg gopD_cg grpK_cg condK_cg cond_cg
theorem fstP_len : ∀ (r : List Int) (c : List (Int × Int)) (n : Nat), (fstP c n r).length ≤ c.length + r.length
  | [], c, n => by simp [fstP]
  | s :: r, c, n => by
    have h1 := fstP_len r c (n + 1)
    have h2 := fstP_len r (c ++ [(s, (n : Int))]) (n + 1)
    rw [List.length_append] at h2
    simp only [fstP, List.length_cons, List.length_nil] at h2 ⊢
    split <;> omega
def lostA (c : List (Int × Int)) (n : Nat) : List Int := ((List.range n).filter fun i : Nat => !hasK c (i : Int)).map fun i : Nat => (i : Int)
theorem lostA_succ (c : List (Int × Int)) (n : Nat) : lostA c (n + 1) = if hasK c (n : Int) = true then lostA c n else lostA c n ++ [(n : Int)] := by
  unfold lostA
  rw [List.range_succ, List.filter_append, List.map_append]
  cases h : hasK c (n : Int) <;> simp [h]
theorem lostA_len (c : List (Int × Int)) (n : Nat) : (lostA c n).length ≤ n := by
  unfold lostA
  rw [List.length_map]
  exact Nat.le_trans (List.length_filter_le _ _) (by simp)
def lostS (l : List Envl) (sch : List Int) : List Int × Int := if askS l sch ≠ 0 then ([], askS l sch) else (lostA (fstS sch) l.length, 0)
theorem Lost_L2 {T : Tab} {D : DTab} {N : Nat} {x0 : AV → Hp → Option AV} {X : Option AV} {c : List (Int × Int)} {m : Nat} (hm : m < 100000) (hx : ∀ v h, Gro 1 enI h v (lostA c m) → x0 v h = X) : ∀ (n i : Nat) (v : AV) (h : Hp), i ≤ m → m < i + n → Gro 1 enI h v (lostA c i) → (∀ k, idOf v = some k → k ≠ 0) → h[0]? = some (.map (kvI c)) →
    f_network_Lost_L2 Try.prog T D N x0 n (.mp 0) v (I m) (I i) h = X := by
  intro n
  induction n with
  | zero => intro i v h h1 h2; omega
  | succ n ih =>
    intro i v h h1 h2 G hv h0
    show f_network_Lost_b2 Try.prog T D N (f_network_Lost_L2 Try.prog T D N x0 n) x0 _ _ _ _ h = _
    rcases Nat.lt_or_ge i m with hi | hi
    · have hlt : ((i : Int) < (m : Int)) := by omega
      have hw : IntKind.i64.wrap ((i : Int) + 1) = ((i + 1 : Nat) : Int) := by rw [wrap64 (by omega) (by omega)]; omega
      obtain ⟨lv, lk⟩ := lookI (z := .s (.int .i64 0)) (n := (i : Int)) Try.underlying3 h0
      have e0 : ∀ k : Go.AM.K AV, exK (.tup [lv, B (hasK c i)]) 0 k = k lv := fun k => rfl
      have e1 : ∀ k : Go.AM.K AV, exK (.tup [lv, B (hasK c i)]) 1 k = k (B (hasK c i)) := fun k => rfl
      have hsn := lostA_succ c i
      have hal := lostA_len c i
      simp -implicitDefEqProofs only [f_network_Lost_b2, arithK_lss, hlt, decide_true, condK_bool, if_true, lk, e0, e1, notK_bool]
      cases hk : hasK c (i : Int) with
      | true =>
        rw [hk, if_pos rfl] at hsn
        simp -implicitDefEqProofs only [Bool.not_true, Bool.false_eq_true, if_false, f_network_Lost_j4, f_network_Lost_j3, arithK_add, hw]
        exact ih (i + 1) v h hi (by omega) (by rw [hsn]; exact G) hv h0
      | false =>
        rw [hk, if_neg (by simp)] at hsn
        have bs : ∀ k : AV → Hp → Option AV, effK (bsE 1 [.s (.int .i64 0)] 1 [(0, I i)] h.length) h k = k (.sl 1 h.length 0 1 1 true) (h ++ [.arr 1 [[I i]] true false]) := fun k => by simp [bsE, fillS, effK, ap]
        obtain ⟨v', h', q1, q2, q3, q4, q5⟩ := Gro.snoc AV (G.app [.arr 1 [[I i]] true false]) (by_ := 8) (m := h.length) (z := (i : Int)) (b := true) (by rw [get_new0]; rfl) (fun hk => by have := G.lt hk; omega) (fun x _ => rfl) (by omega)
        have h0l : 0 < h.length := (List.getElem?_eq_some_iff.1 h0).1
        simp -implicitDefEqProofs only [Bool.not_false, if_true, bs, q1, f_network_Lost_j4, f_network_Lost_j3, arithK_add, hw]
        refine ih (i + 1) v' h' hi (by omega) (by rw [hsn]; exact q2) (fun k hk => ?_) (q4 0 _ (get_app h0) fun hk => hv 0 hk rfl)
        rcases q5 with e | e
        · exact hv k (e ▸ hk)
        · rw [e] at hk; simp at hk; omega
    · have : i = m := by omega
      subst this
      have c1 : ¬ ((i : Int) < (i : Int)) := by omega
      simp -implicitDefEqProofs only [f_network_Lost_b2, arithK_lss, c1, decide_false, condK_bool, Bool.false_eq_true, if_false]
      exact hx v h G
theorem Lost_run (l : List Envl) (b : Bool) (sch : List Int) (b2 : Bool) (hl : l.length < 1000000) (hs : sch.length < 1000000) : ∃ w, (∀ st, f_network_Lost Try.prog t_network_Lost d_network_Lost NN (fun v g => cvt st g v) (.lst 10 b (l.map encV)) (.lst 1 b2 (sch.map enI)) [] = some (.tup [w, I (lostS l sch).2])) ∧ nrm (.l 1) w = .lst 1 (lostS l sch).1.isEmpty ((lostS l sch).1.map enI) := by
  have fa := F_network_asked_val l b sch b2 hl hs
  simp -implicitDefEqProofs only [f_network_Lost, t_network_Lost_53, callK_F, fa, eqK_int, Bool.true_xor, condK_bool]
  by_cases q : askS l sch = 0
  · have e1 : (askS l sch == 0) = true := by simpa using q
    obtain ⟨-, k1, k2, k3⟩ := askS_ok q
    obtain ⟨h', f1, f2⟩ := firsts_run (l := l) (b := b) (sch := sch) (b2 := b2) (by omega) k3
    have hS : lostS l sch = (lostA (fstS sch) l.length, 0) := if_neg (by simp [q])
    rw [hS]
    simp -implicitDefEqProofs only [e1, Bool.not_true, Bool.false_eq_true, if_false, t_network_Lost_54, callK_F, f1, lenK_lst, List.length_map]
    by_cases hz : lostA (fstS sch) l.length = []
    · refine ⟨nilS, fun st => Lost_L2 (c := fstS sch) (by omega) (fun v h G => ?_) NN 0 nilS h' (by omega) (by have := NN_ge; omega) .nil (by simp) f2, by rw [hz]; rfl⟩
      rw [hz] at G
      rcases G with ⟨-, rfl⟩ | ⟨h1, -⟩
      · rfl
      · exact absurd rfl h1
    · refine ⟨.lst 1 false ((lostA (fstS sch) l.length).map enI), fun st => Lost_L2 (c := fstS sch) (by omega) (fun v h G => ?_) NN 0 nilS h' (by omega) (by have := NN_ge; omega) .nil (by simp) f2, ?_⟩
      · rcases G with ⟨h1, -⟩ | ⟨h1, k, rfl, h2⟩
        · exact absurd h1 hz
        · have := cvt_whole (st := st) (full := false) h2 (n := (lostA (fstS sch) l.length).length) (fr := (lostA (fstS sch) l.length).length) (by simp) (by simp) (okE_map fun x => by cases st <;> simp [isS])
          simp only [f_network_Lost_j1, cvt_tup, cvts_cons, cvts_nil, this, cvt_s]
          rfl
      · have : (lostA (fstS sch) l.length).isEmpty = false := by simpa using hz
        rw [this]; rfl
  · have e1 : (askS l sch == 0) = false := by simpa using q
    have hS : lostS l sch = ([], askS l sch) := if_pos q
    rw [hS]
    exact ⟨nilS, fun st => by simp only [e1, Bool.not_false, if_true]; rfl, rfl⟩
theorem F_network_Lost_val (l : List Envl) (b : Bool) (sch : List Int) (b2 : Bool) (hl : l.length < 1000000) (hs : sch.length < 1000000) (h : Hp) : F_network_Lost [.lst 10 b (l.map encV), .lst 1 b2 (sch.map enI)] h = some (.tup [.lst 1 (lostS l sch).1.isEmpty ((lostS l sch).1.map enI), I (lostS l sch).2], h) := by
  obtain ⟨w, w1, w2⟩ := Lost_run l b sch b2 hl hs
  refine (F_network_Lost_run (a0 := .lst 10 b (l.map encV)) (a1 := .lst 1 b2 (sch.map enI)) rfl (w1 false) h).trans ?_
  show some (AV.tup [nrm (.l 1) w, I (lostS l sch).2], h) = _
  rw [w2]
theorem F_network_Lost_at (l : List Envl) (b : Bool) (sch : List Int) {b2 : Bool} (hl : l.length < 1000000) (hs : sch.length < 1000000) {h : Hp} {v a : AV} (hv : cvt false h v = some a) (ha : nrm (.l 1) a = .lst 1 b2 (sch.map enI)) : F_network_Lost [.lst 10 b (l.map encV), v] h = some (.tup [.lst 1 (lostS l sch).1.isEmpty ((lostS l sch).1.map enI), I (lostS l sch).2], h) := by
  obtain ⟨w, w1, w2⟩ := Lost_run l b sch b2 hl hs
  refine (F_network_Lost_own (a0 := .lst 10 b (l.map encV)) (a1 := a) (by simp only [cvts_cons, cvts_nil, hv]; rfl) (fun st => by rw [ha]; exact w1 st)).trans ?_
  show some (AV.tup [nrm (.l 1) w, I (lostS l sch).2], h) = _
  rw [w2]
def repS (l : List Envl) (sch : List Int) : Int × Int := if askS l sch ≠ 0 then (0, askS l sch) else ((sch.length : Int) - (fstS sch).length, 0)
theorem F_network_Repeated_val (l : List Envl) (b : Bool) (sch : List Int) (b2 : Bool) (hl : l.length < 1000000) (hs : sch.length < 1000000) (h : Hp) : F_network_Repeated [.lst 10 b (l.map encV), .lst 1 b2 (sch.map enI)] h = some (tupP (repS l sch), h) := by
  have fa := F_network_asked_val l b sch b2 hl hs
  refine (F_network_Repeated_run (a0 := .lst 10 b (l.map encV)) (a1 := .lst 1 b2 (sch.map enI)) (v := tupP (repS l sch)) rfl ?_ h).trans rfl
  simp only [nrm, nrmC]
  simp -implicitDefEqProofs only [f_network_Repeated, t_network_Repeated_53, callK_F, fa, eqK_int, Bool.true_xor, condK_bool]
  by_cases q : askS l sch = 0
  · have e1 : (askS l sch == 0) = true := by simpa using q
    obtain ⟨-, k1, k2, k3⟩ := askS_ok q
    obtain ⟨h', f1, f2⟩ := firsts_run (l := l) (b := b) (sch := sch) (b2 := b2) (by omega) k3
    have hS : repS l sch = ((sch.length : Int) - (fstS sch).length, 0) := if_neg (by simp [q])
    have hfl : (fstS sch).length ≤ sch.length := by simpa using fstP_len sch [] 0
    have lm : ∀ k : Go.AM.K AV, lenM (.mp 0) h' k = k (I (fstS sch).length) := fun k => by
      unfold lenM
      simp only [f2]
      rw [kvI, List.length_map]
    have hw : IntKind.i64.wrap ((sch.length : Int) - ((fstS sch).length : Int)) = (sch.length : Int) - ((fstS sch).length : Int) := wrap64 (by omega) (by omega)
    rw [hS]
    simp -implicitDefEqProofs only [e1, Bool.not_true, Bool.false_eq_true, if_false, t_network_Repeated_54, callK_F, f1, lenK_lst, List.length_map, lm, arithK_sub, hw]
    rfl
  · have e1 : (askS l sch == 0) = false := by simpa using q
    have hS : repS l sch = (0, askS l sch) := if_pos q
    rw [hS]
    simp only [e1, Bool.not_false, if_true]
    rfl
theorem sum_rm {g : Nat → Int} {j : Nat} : ∀ {L : List Nat}, L.Nodup → j ∈ L → ((L.filter fun i => i != j).map g).sum + g j = (L.map g).sum
  | x :: L, hn, hj => by
    rw [List.nodup_cons] at hn
    by_cases e : x = j
    · subst e
      have : L.filter (fun i => i != x) = L := List.filter_eq_self.2 fun y hy => by
        simp only [bne_iff_ne, ne_eq]
        rintro rfl
        exact hn.1 hy
      rw [List.filter_cons_of_neg (by simp), this, List.map_cons, List.sum_cons]
      omega
    · have hj2 : j ∈ L := by
        rcases List.mem_cons.1 hj with h | h
        · exact absurd h.symm e
        · exact h
      have ih := sum_rm (g := g) hn.2 hj2
      rw [List.filter_cons_of_pos (by simpa using e), List.map_cons, List.sum_cons, List.map_cons, List.sum_cons]
      omega
theorem left_snoc {n j : Nat} {seen : List Nat} : leftIt n (seen ++ [j]) = (leftIt n seen).filter fun i => i != j := by
  unfold leftIt
  rw [List.filter_filter]
  congr 1
  funext i
  simp [List.contains_append]
  by_cases e : i = j <;> simp [e]
theorem left_sum {g : Nat → Int} {n j : Nat} {seen : List Nat} (hj : j ∈ leftIt n seen) : ((leftIt n (seen ++ [j])).map g).sum + g j = ((leftIt n seen).map g).sum := by
  rw [left_snoc]
  exact sum_rm (List.nodup_range.sublist List.filter_sublist) hj
theorem Kept.trans {h h1 h2 : Hp} {k : Nat} (a : Kept h h1 k) (b : Kept h1 h2 k) : Kept h h2 k := ⟨by have := a.len; have := b.len; omega, fun j h1 h2 => by rw [b.same j h1 (by have := a.len; omega), a.same j h1 h2]⟩
def crG (c : List (Int × Int)) (i a : Int) (j : Nat) : Int := match c[j]? with | some e => if i < e.1 ∧ a > e.2 then 1 else 0 | none => 0
def crRow (c : List (Int × Int)) (i a : Int) : Int := ((List.range c.length).map (crG c i a)).sum
def crF (c : List (Int × Int)) (j : Nat) : Int := match c[j]? with | some e => crRow c e.1 e.2 | none => 0
def crN (c : List (Int × Int)) : Int := ((List.range c.length).map (crF c)).sum
theorem crG_bd (c : List (Int × Int)) (i a : Int) (j : Nat) : 0 ≤ crG c i a j ∧ crG c i a j ≤ 1 := by
  unfold crG
  cases c[j]? with
  | none => simp
  | some e => dsimp only; split <;> simp
theorem sum_bd {g : Nat → Int} {m : Int} (hg : ∀ j, 0 ≤ g j ∧ g j ≤ m) : ∀ L : List Nat, 0 ≤ (L.map g).sum ∧ (L.map g).sum ≤ m * L.length
  | [] => by simp
  | x :: L => by
    have h1 := hg x
    have h2 := sum_bd hg L
    simp only [List.map_cons, List.sum_cons, List.length_cons]
    have e : m * ((L.length + 1 : Nat) : Int) = m * (L.length : Int) + m := by push_cast; rw [Int.mul_add, Int.mul_one]
    rw [e]
    omega
theorem crRow_bd (c : List (Int × Int)) (i a : Int) : 0 ≤ crRow c i a ∧ crRow c i a ≤ c.length := by
  have := sum_bd (crG_bd c i a) (List.range c.length)
  rw [List.length_range, Int.one_mul] at this
  exact this
theorem cross_L5 {T : Tab} {D : DTab} {N : Nat} {x2 : AV → AV → AV → Hp → Option AV} {X : Option AV} {c : List (Int × Int)} {i a : Int} {v23 : AV} {it : Nat} (hit : it ≠ 0) : ∀ (n : Nat) (seen : List Nat) (cnt : Int) (h : Hp), (leftIt c.length seen).length < n → h[it]? = some (.iter 0 c.length seen) → h[0]? = some (.map (kvI c)) → 0 ≤ cnt → cnt + (leftIt c.length seen).length ≤ 1000000 →
    (∀ h', Kept h h' it → x2 (.mp 0) (I (cnt + ((leftIt c.length seen).map (crG c i a)).sum)) v23 h' = X) →
    f_network_Crossed_L5 Try.prog T D N x2 n (.mp 0) (I cnt) (I i) (I a) v23 (.it it) h = X := by
  intro n
  induction n with
  | zero => intro seen cnt h h1; omega
  | succ n ih =>
    intro seen cnt h h1 h2 h3 h4 h5 hx
    show f_network_Crossed_b5 Try.prog T D N (f_network_Crossed_L5 Try.prog T D N x2 n) x2 _ _ _ _ _ _ h = _
    unfold f_network_Crossed_b5
    refine nextK_of h2 h3 (by rw [kvI, List.length_map]) _ (fun e => ?_) (fun j hj => ?_)
    · have := hx h (.refl h it)
      rw [e] at this
      simp only [List.map_nil, List.sum_nil, Int.add_zero] at this
      have e0 : ∀ k : Go.AM.K AV, exK (.tup [.s (.bool false)]) 0 k = k (B false) := fun k => rfl
      simp -implicitDefEqProofs only [e0, condK_bool, Bool.false_eq_true, if_false]
      exact this
    · have hjm := leftIt_mem.1 hj
      have hl := leftIt_snoc hj
      have hsum := left_sum (g := crG c i a) hj
      have hcj : c[j]? = some c[j] := List.getElem?_eq_getElem hjm.1
      have hg : crG c i a j = if i < c[j].1 ∧ a > c[j].2 then 1 else 0 := by unfold crG; rw [hcj]
      generalize c[j] = e at hcj hg
      have hset : (h.set it (.iter 0 c.length (seen ++ [j])))[it]? = some (.iter 0 c.length (seen ++ [j])) := getSelfN h2
      have hm : (h.set it (.iter 0 c.length (seen ++ [j])))[0]? = some (.map (kvI c)) := getSetN h3 hit
      have hkv : (kvI c)[j]? = some (Value.int .i64 e.1, I e.2) := by rw [kvI, List.getElem?_map, hcj]; rfl
      have en := fun k : Go.AM.K AV => entryK_at hset hm (by rw [kvI, List.length_map]) hkv k
      have kept : Kept h (h.set it (.iter 0 c.length (seen ++ [j]))) it := (Kept.refl h it).set _
      have e0 : ∀ (y z : AV) (k : Go.AM.K AV), exK (.tup [.s (.bool true), y, z]) 0 k = k (B true) := fun y z k => rfl
      have x0 : ∀ k : Go.AM.K AV, exK (.tup [keyAV (Value.int .i64 e.1), I e.2]) 0 k = k (I e.1) := fun k => rfl
      have x1 : ∀ k : Go.AM.K AV, exK (.tup [keyAV (Value.int .i64 e.1), I e.2]) 1 k = k (I e.2) := fun k => rfl
      generalize h.set it (.iter 0 c.length (seen ++ [j])) = h' at *
      simp -implicitDefEqProofs only [e0, condK_bool, if_true, en, x0, x1, arithK_lss, arithK_gtr, grpK_and]
      by_cases q : i < e.1 ∧ a > e.2
      · rw [if_pos q] at hg
        have d : (decide (i < e.1) && decide (a > e.2)) = true := by simp [q.1]; omega
        have hw : IntKind.i64.wrap (cnt + 1) = cnt + 1 := wrap64 (by omega) (by omega)
        simp -implicitDefEqProofs only [d, if_true, arithK_add, hw, f_network_Crossed_j6]
        refine ih (seen ++ [j]) (cnt + 1) h' (by omega) hset hm (by omega) (by omega) fun h'' hk => ?_
        have := hx h'' (kept.trans hk)
        rw [← hsum, hg] at this
        rw [show cnt + 1 + ((leftIt c.length (seen ++ [j])).map (crG c i a)).sum = cnt + (((leftIt c.length (seen ++ [j])).map (crG c i a)).sum + 1) by omega]
        exact this
      · rw [if_neg q] at hg
        have d : (decide (i < e.1) && decide (a > e.2)) = false := by
          rw [Bool.eq_false_iff]
          intro h
          simp only [Bool.and_eq_true, decide_eq_true_eq] at h
          exact q h
        simp -implicitDefEqProofs only [d, Bool.false_eq_true, if_false, f_network_Crossed_j6]
        refine ih (seen ++ [j]) cnt h' (by omega) hset hm h4 (by omega) fun h'' hk => ?_
        have := hx h'' (kept.trans hk)
        rw [← hsum, hg, Int.add_zero] at this
        exact this
theorem cross_L2 {T : Tab} {D : DTab} {x0 : AV → Hp → Option AV} {X : Option AV} {c : List (Int × Int)} (hc : c.length ≤ 256) {o : Nat} (ho : o ≠ 0) : ∀ (n : Nat) (seen : List Nat) (cnt : Int) (h : Hp), (leftIt c.length seen).length < n → h[o]? = some (.iter 0 c.length seen) → h[0]? = some (.map (kvI c)) → 0 ≤ cnt → cnt + 256 * (leftIt c.length seen).length ≤ 100000 →
    (∀ h', x0 (I (cnt + ((leftIt c.length seen).map (crF c)).sum)) h' = X) →
    f_network_Crossed_L2 Try.prog T D NN x0 n (.mp 0) (I cnt) (.it o) h = X := by
  intro n
  induction n with
  | zero => intro seen cnt h h1; omega
  | succ n ih =>
    intro seen cnt h h1 h2 h3 h4 h5 hx
    show f_network_Crossed_b2 Try.prog T D NN (f_network_Crossed_L2 Try.prog T D NN x0 n) x0 _ _ _ h = _
    unfold f_network_Crossed_b2
    refine nextK_of h2 h3 (by rw [kvI, List.length_map]) _ (fun e => ?_) (fun j hj => ?_)
    · have := hx h
      rw [e] at this
      simp only [List.map_nil, List.sum_nil, Int.add_zero] at this
      have e0 : ∀ k : Go.AM.K AV, exK (.tup [.s (.bool false)]) 0 k = k (B false) := fun k => rfl
      simp -implicitDefEqProofs only [e0, condK_bool, Bool.false_eq_true, if_false]
      exact this
    · have hjm := leftIt_mem.1 hj
      have hl := leftIt_snoc hj
      have hsum := left_sum (g := crF c) hj
      have hcj : c[j]? = some c[j] := List.getElem?_eq_getElem hjm.1
      have hg : crF c j = crRow c c[j].1 c[j].2 := by unfold crF; rw [hcj]
      generalize c[j] = e at hcj hg
      have hset : (h.set o (.iter 0 c.length (seen ++ [j])))[o]? = some (.iter 0 c.length (seen ++ [j])) := getSelfN h2
      have hm : (h.set o (.iter 0 c.length (seen ++ [j])))[0]? = some (.map (kvI c)) := getSetN h3 ho
      have hkv : (kvI c)[j]? = some (Value.int .i64 e.1, I e.2) := by rw [kvI, List.getElem?_map, hcj]; rfl
      have en := fun k : Go.AM.K AV => entryK_at hset hm (by rw [kvI, List.length_map]) hkv k
      have e0 : ∀ (y z : AV) (k : Go.AM.K AV), exK (.tup [.s (.bool true), y, z]) 0 k = k (B true) := fun y z k => rfl
      have y0 : ∀ k : Go.AM.K AV, exK (.tup [keyAV (Value.int .i64 e.1), I e.2]) 0 k = k (I e.1) := fun k => rfl
      have y1 : ∀ k : Go.AM.K AV, exK (.tup [keyAV (Value.int .i64 e.1), I e.2]) 1 k = k (I e.2) := fun k => rfl
      generalize h.set o (.iter 0 c.length (seen ++ [j])) = h' at *
      have hol : o < h'.length := (List.getElem?_eq_some_iff.1 hset).1
      have h0l : 0 < h'.length := (List.getElem?_eq_some_iff.1 hm).1
      have rg : ∀ k : AV → Hp → Option AV, effK (rngE (.mp 0) h' h'.length) h' k = k (.it h'.length) (h' ++ [.iter 0 c.length []]) := fun k => by
        unfold rngE
        simp only [hm]
        rw [kvI, List.length_map]
        rfl
      have hl0 : leftIt c.length [] = List.range c.length := by unfold leftIt; exact List.filter_eq_self.2 fun x _ => by simp
      have hrb := crRow_bd c e.1 e.2
      simp -implicitDefEqProofs only [e0, condK_bool, if_true, en, y0, y1, rg]
      refine cross_L5 (it := h'.length) (by omega) NN [] cnt (h' ++ [.iter 0 c.length []]) (by rw [hl0, List.length_range]; have := NN_ge; omega) (by rw [get_new0]; rfl) (get_app hm) h4 (by rw [hl0, List.length_range]; omega) fun h'' hk => ?_
      rw [hl0]
      show f_network_Crossed_j4 Try.prog T D NN (f_network_Crossed_L2 Try.prog T D NN x0 n) x0 (.mp 0) (I (cnt + crRow c e.1 e.2)) (.it o) h'' = X
      have hk' : ∀ j < h'.length, h''[j]? = h'[j]? := fun j hj => by rw [hk.same j (by omega) (by simp; omega), List.getElem?_append_left hj]
      simp -implicitDefEqProofs only [f_network_Crossed_j4, f_network_Crossed_j3]
      refine ih (seen ++ [j]) (cnt + crRow c e.1 e.2) h'' (by omega) (by rw [hk' o hol]; exact hset) (by rw [hk' 0 h0l]; exact hm) (by omega) (by omega) fun h3 => ?_
      have := hx h3
      rw [← hsum, hg] at this
      rw [show cnt + crRow c e.1 e.2 + ((leftIt c.length (seen ++ [j])).map (crF c)).sum = cnt + (((leftIt c.length (seen ++ [j])).map (crF c)).sum + crRow c e.1 e.2) by omega]
      exact this
def croS (l : List Envl) (sch : List Int) : Int × Int := if askS l sch ≠ 0 then (0, askS l sch) else (crN (fstS sch), 0)
theorem Crossed_key (l : List Envl) (b : Bool) (sch : List Int) (b2 : Bool) (hl : l.length < 1000000) (hs : sch.length < 1000000) (st : Bool) : f_network_Crossed Try.prog t_network_Crossed d_network_Crossed NN (fun v g => cvt st g v) (.lst 10 b (l.map encV)) (.lst 1 b2 (sch.map enI)) [] = some (tupP (croS l sch)) := by
  have fa := F_network_asked_val l b sch b2 hl hs
  simp -implicitDefEqProofs only [f_network_Crossed, t_network_Crossed_53, callK_F, fa, eqK_int, Bool.true_xor, condK_bool]
  by_cases q : askS l sch = 0
  · have e1 : (askS l sch == 0) = true := by simpa using q
    obtain ⟨-, k1, k2, k3⟩ := askS_ok q
    obtain ⟨h', f1, f2⟩ := firsts_run (l := l) (b := b) (sch := sch) (b2 := b2) (by omega) k3
    have hS : croS l sch = (crN (fstS sch), 0) := if_neg (by simp [q])
    have hfl : (fstS sch).length ≤ sch.length := by simpa using fstP_len sch [] 0
    have h0l : 0 < h'.length := (List.getElem?_eq_some_iff.1 f2).1
    have rg : ∀ k : AV → Hp → Option AV, effK (rngE (.mp 0) h' h'.length) h' k = k (.it h'.length) (h' ++ [.iter 0 (fstS sch).length []]) := fun k => by
      unfold rngE
      simp only [f2]
      rw [kvI, List.length_map]
      rfl
    have hl0 : leftIt (fstS sch).length [] = List.range (fstS sch).length := by unfold leftIt; exact List.filter_eq_self.2 fun x _ => by simp
    rw [hS]
    simp -implicitDefEqProofs only [e1, Bool.not_true, Bool.false_eq_true, if_false, t_network_Crossed_54, callK_F, f1, rg]
    refine cross_L2 (c := fstS sch) (by omega) (o := h'.length) (by omega) NN [] 0 _ (by rw [hl0, List.length_range]; have := NN_ge; omega) (by rw [get_new0]; rfl) (get_app f2) (by omega) (by rw [hl0, List.length_range]; omega) fun h'' => ?_
    rw [hl0, Int.zero_add]
    rfl
  · have e1 : (askS l sch == 0) = false := by simpa using q
    have hS : croS l sch = (0, askS l sch) := if_pos q
    rw [hS]
    simp only [e1, Bool.not_false, if_true]
    rfl
theorem F_network_Crossed_val (l : List Envl) (b : Bool) (sch : List Int) (b2 : Bool) (hl : l.length < 1000000) (hs : sch.length < 1000000) (h : Hp) : F_network_Crossed [.lst 10 b (l.map encV), .lst 1 b2 (sch.map enI)] h = some (tupP (croS l sch), h) :=
  F_network_Crossed_run (a0 := .lst 10 b (l.map encV)) (a1 := .lst 1 b2 (sch.map enI)) rfl (Crossed_key l b sch b2 hl hs false) h
theorem scal_P (r : Int × Int) : scal (tupP r) = true := rfl
theorem F_network_Repeated_at (l : List Envl) (b : Bool) (sch : List Int) {b2 : Bool} (hl : l.length < 1000000) (hs : sch.length < 1000000) {h : Hp} {v a : AV} (hv : cvt false h v = some a) (ha : nrm (.l 1) a = .lst 1 b2 (sch.map enI)) : F_network_Repeated [.lst 10 b (l.map encV), v] h = some (tupP (repS l sch), h) :=
  closedX_scal' (as' := [.lst 10 b (l.map encV), a]) (asl := [.lst 10 b (l.map encV), .lst 1 b2 (sch.map enI)]) (by simp only [cvts_cons, cvts_nil, hv]; rfl) (by simp only [nrms, ha]; rfl) rfl (F_network_Repeated_val l b sch b2 hl hs []) (scal_P _)
theorem F_network_Crossed_at (l : List Envl) (b : Bool) (sch : List Int) {b2 : Bool} (hl : l.length < 1000000) (hs : sch.length < 1000000) {h : Hp} {v a : AV} (hv : cvt false h v = some a) (ha : nrm (.l 1) a = .lst 1 b2 (sch.map enI)) : F_network_Crossed [.lst 10 b (l.map encV), v] h = some (tupP (croS l sch), h) :=
  F_network_Crossed_own (a0 := .lst 10 b (l.map encV)) (a1 := a) (by simp only [cvts_cons, cvts_nil, hv]; rfl) fun st => by rw [ha]; exact Crossed_key l b sch b2 hl hs st
end Go.AM


namespace Go.AM
open Go.Proofs
set_option linter.unusedVariables false
set_option linter.unusedSimpArgs false
set_option linter.constructorNameAsVariable false
set_option maxRecDepth 20000
section
variable {β : Type} {P : Program} {T : Tab} {D : DTab} {N : Nat} {K : AV → Hp → Option β}
theorem Index_Message_L2 {T : Tab} {D : DTab} {N : Nat} {x0 : Hp → Option β} {xr : AV → Hp → Option β} {l : List Msg} {b : Bool} {v : Msg} {h : Hp} {m : Nat} (hm : h[m]? = some (.arr 7 [encM v] true false)) (hl : l.length < 4611686018427387904) (heq : ∀ (x y : Msg) (h : Hp) (k : Go.AM.K β), eqK Try.prog false 31 (.agg (encM x)) (.agg (encM y)) h k = k (B (x == y))) :
    ∀ (n i : Nat), i ≤ l.length → l.length < i + n → f_slices_Index_Message_L2 Try.prog T D N x0 xr n (.lst 7 b (l.map encM)) (.ptr m 0 0 1) (I l.length) (I i) h = match (l.drop i).findIdx? (fun y => v == y) with | some j => xr (I ((i + j : Nat) : Int)) h | none => x0 h := by
  intro n
  induction n with
  | zero => intro i h1 h2; omega
  | succ n ih =>
    intro i h1 h2
    show f_slices_Index_Message_b2 Try.prog T D N (f_slices_Index_Message_L2 Try.prog T D N x0 xr n) x0 xr _ _ _ _ h = _
    unfold f_slices_Index_Message_b2
    rcases Nat.lt_or_ge i l.length with hi | hi
    · have hx : l[i]? = some l[i] := List.getElem?_eq_getElem hi
      have hlt : ((i : Int) < (l.length : Int)) := by omega
      have hw : IntKind.i64.wrap ((i : Int) + 1) = ((i + 1 : Nat) : Int) := by rw [wrap64 (by omega) (by omega)]; omega
      have hpx := fun k => heq v l[i] h k
      have h3 := ih (i + 1) hi (by omega)
      have ic : ∀ k : Go.AM.K β, iaK 7 (.lst 7 b (l.map encM)) (I i) k = k (.ep (encM l[i]) 0) := fun k => iaK_at i rfl hx k
      have ld : ∀ k : Go.AM.K β, ldK 7 true (.ep (encM l[i]) 0) h k = k ((fun y => .agg (encM y)) l[i]) := fun k => by simp [encM]
      rw [List.drop_eq_getElem_cons hi, List.findIdx?_cons]
      have lv : ∀ k : Go.AM.K β, ldK 7 true (.ptr m 0 0 1) h k = k ((fun x => .agg (encM x)) v) := fun k => by simp [hm, encM]
      dsimp only at h3 ld lv ⊢
      simp only [arithK_lss, hlt, decide_true, condK_bool, if_true, ic, ld, lv, hpx]
      cases hc : (v == l[i]) with
      | true => simp
      | false =>
        simp only [Bool.false_eq_true, if_false, arithK_add, hw]
        refine h3.trans ?_
        cases (List.drop (i + 1) l).findIdx? (fun y => v == y) with
        | none => rfl
        | some j =>
          show xr (I ((i + 1 + j : Nat) : Int)) h = xr (I ((i + (j + 1) : Nat) : Int)) h
          rw [show i + 1 + j = i + (j + 1) by omega]
    · have : i = l.length := by omega
      subst this
      simp
theorem F_slices_Contains_Message_val (l : List Msg) (b : Bool) (v : Msg) (hl : l.length < 1000000) (heq : ∀ (x y : Msg) (h : Hp) (k : Go.AM.K AV), eqK Try.prog false 31 (.agg (encM x)) (.agg (encM y)) h k = k (B (x == y))) (h : Hp) : F_slices_Contains_Message [.lst 7 b (l.map encM), (fun x => .agg (encM x)) v] h = some (B (l.contains v), h) := by
  have e : ∀ h, F_slices_Index_Message [.lst 7 b (l.map encM), (fun x => .agg (encM x)) v] h = some (I (match l.findIdx? (fun y => v == y) with | some j => (j : Int) | none => -1), h) :=
    F_slices_Index_Message_run rfl (by
      have := Index_Message_L2 (l := l) (T := t_slices_Index_Message) (D := d_slices_Index_Message) (N := NN) (b := b) (v := v) (h := [.arr 7 [encM v] true false]) (m := 0) (x0 := fun h => f_slices_Index_Message_j1 Try.prog t_slices_Index_Message d_slices_Index_Message NN (fun v g => cvt false g v) h) (xr := fun a h => cvt false h a) rfl (by omega) heq NN 0 (Nat.zero_le _) (by have := NN_ge; omega)
      have bx : ∀ k : AV → Hp → Option AV, effK (boxE 7 ((fun x => .agg (encM x)) v) ([] : Hp).length) [] k = k (.ptr 0 0 0 1) [.arr 7 [encM v] true false] := fun k => by simp [boxE, encM]
      simp only [nrm, nrmC, f_slices_Index_Message, lenK_lst, List.length_map, bx]
      simp only [List.drop_zero] at this
      refine this.trans ?_
      cases l.findIdx? (fun y => v == y) with
      | none => rfl
      | some j => simp)
  have bx : ∀ k : AV → Hp → Option AV, effK (boxE 7 ((fun x => .agg (encM x)) v) ([] : Hp).length) [] k = k (.ptr 0 0 0 1) [.arr 7 [encM v] true false] := fun k => by simp [boxE, encM]
  have lv : ∀ k : Go.AM.K AV, ldK 7 true (.ptr 0 0 0 1) [.arr 7 [encM v] true false] k = k ((fun x => .agg (encM x)) v) := fun k => by simp [encM]
  refine F_slices_Contains_Message_run rfl ?_ h
  simp only [nrm, nrmC, f_slices_Contains_Message, bx, lv, t_slices_Contains_Message_60, callK_F, e]
  have : l.contains v = (l.findIdx? (fun y => v == y)).isSome := by rw [List.findIdx?_isSome, List.contains_eq_any_beq]
  rw [this]
  cases l.findIdx? (fun y => v == y) <;> simp
end
attribute [local congr] arithK_cg eqK_cg notK_cg convK_cg pickK_cg buildK_cg ldK_cg nilK_cg sliceK_cg faK_cg fldK_cg iaK_cg iaA_cg lookK_cg capK_cg exK_cg lenK_cg minK_cg maxK_cg effK_cg callK_cg callVK_cg effD_cg gopD_cg grpK_cg condK_cg cond_cg
theorem contains_M {o : List Msg} {m : Msg} {h : Hp} {v a : AV} {b : Bool} (hl : o.length < 1000000) (hv : cvt false h v = some a) (ha : nrm (.l 7) a = .lst 7 b (o.map encM)) : F_slices_Contains_Message [v, .agg (encM m)] h = some (B (o.contains m), h) :=
  closedX_scal' (as' := [a, .agg (encM m)]) (asl := [.lst 7 b (o.map encM), .agg (encM m)]) (by simp only [cvts_cons, cvts_nil, hv]; rfl) (by simp only [nrms, ha]; rfl) rfl (F_slices_Contains_Message_val o b m hl (fun x y h k => by rw [eqs_Me, Bool.false_xor]) []) rfl
def uniqM : List Msg → List Envl → List Msg
  | o, [] => o
  | o, e :: r => if o.contains e.msg = true then uniqM o r else uniqM (o ++ [e.msg]) r
theorem uniqM_len : ∀ (r : List Envl) (o : List Msg), (uniqM o r).length ≤ o.length + r.length
  | [], o => by simp [uniqM]
  | e :: r, o => by
    have h1 := uniqM_len r o
    have h2 := uniqM_len r (o ++ [e.msg])
    rw [List.length_append] at h2
    simp only [uniqM, List.length_cons, List.length_nil] at h2 ⊢
    split <;> omega
theorem Known_L2 {E : List Envl} {b : Bool} {base : Nat} (hl : E.length < 100000) : ∀ (n i : Nat) (v : AV) (h : Hp) (o : List Msg), i ≤ E.length → E.length < i + n → Gro 7 encM h v o → o.length ≤ i → (∀ k, idOf v = some k → base ≤ k) → base ≤ h.length →
    ∃ v' h', (∀ {β : Type} (x0 : AV → Hp → Option β), f_network_Known_L2 Try.prog t_network_Known d_network_Known NN x0 n v (.lst 10 b (E.map encV)) (I E.length) (I i) h = x0 v' h') ∧ Gro 7 encM h' v' (uniqM o (E.drop i)) ∧ (∀ j < base, h'[j]? = h[j]?) := by
  intro n
  induction n with
  | zero => intro i v h o h1 h2; omega
  | succ n ih =>
    intro i v h o h1 h2 G ho hv hb
    rcases Nat.lt_or_ge i E.length with hi | hi
    · have hx : E[i]? = some E[i] := List.getElem?_eq_getElem hi
      rw [List.drop_eq_getElem_cons hi]
      generalize E[i] = e at hx
      have hlt : ((i : Int) < (E.length : Int)) := by omega
      have hw : IntKind.i64.wrap ((i : Int) + 1) = ((i + 1 : Nat) : Int) := by rw [wrap64 (by omega) (by omega)]; omega
      obtain ⟨x, hhx⟩ : ∃ x, x = h ++ [AObj.arr 10 [encV e] true false] := ⟨_, rfl⟩
      have Gx : Gro 7 encM x v o := by rw [hhx]; exact G.app _
      obtain ⟨w, w1, w2⟩ := Gx.cvts (fun x st => by cases st <;> simp [encM, isS])
      have fc := contains_M (m := e.msg) (by omega) (w1 false) w2
      have hxl : x.length = h.length + 1 := by rw [hhx]; simp
      simp only [uniqM]
      cases hk : o.contains e.msg with
      | true =>
        rw [if_pos rfl]
        obtain ⟨v', h', a1, a2, a3⟩ := ih (i + 1) v x o hi (by omega) Gx (by omega) hv (by omega)
        refine ⟨v', h', fun {β} x0 => ?_, a2, fun j hj => by rw [a3 j hj, hhx, List.getElem?_append_left (by omega)]⟩
        rw [← a1 x0]
        have ic : ∀ k : Go.AM.K β, iaK 10 (.lst 10 b (E.map encV)) (I i) k = k (.ep (encV e) 0) := fun k => iaK_at i rfl hx k
        have ld : ∀ k : Go.AM.K β, ldK 10 true (.ep (encV e) 0) h k = k (.agg (encV e)) := fun k => rfl
        have ns : ∀ k : AV → Hp → Option β, effK (stE 10 (.ptr h.length 0 0 1) (.agg (encV e)) (h ++ [.arr 10 [zE] true false])) (h ++ [.arr 10 [zE] true false]) k = k .u x := fun k => by rw [hhx]; exact nst k
        have m3 : ∀ k : Go.AM.K β, ldK 7 true (.ptr h.length 0 3 1) x k = k (.agg (encM e.msg)) := fun k => by rw [hhx]; exact nl3 k
        show f_network_Known_b2 Try.prog t_network_Known d_network_Known NN (f_network_Known_L2 Try.prog t_network_Known d_network_Known NN x0 n) x0 _ _ _ _ h = _
        simp -implicitDefEqProofs only [f_network_Known_b2, arithK_lss, hlt, decide_true, condK_bool, if_true, ic, ld, nbx, ns, faK_ptr, Nat.zero_add, m3, t_network_Known_37, callK_F, fc, hk, notK_bool, Bool.not_true, Bool.false_eq_true, if_false, f_network_Known_j4, f_network_Known_j3, arithK_add, hw]
      | false =>
        rw [if_neg (by simp)]
        obtain ⟨v1, e1, g1, g2, g3, g4, g5⟩ := Gro.snocE (f := encM) (sz := 7) (h := x ++ [AObj.arr 7 [encM e.msg] true false]) (Gx.app [AObj.arr 7 [encM e.msg] true false]) (by_ := 56) (m := x.length) (z := e.msg) (b := true) (by rw [get_new0]; rfl) (fun hk => by have := Gx.lt hk; omega) (fun x _ => rfl) (by omega)
        obtain ⟨v', h', a1, a2, a3⟩ := ih (i + 1) v1 (ap (x ++ [.arr 7 [encM e.msg] true false]) e1) (o ++ [e.msg]) hi (by omega) g2 (by simp; omega) (fun k hk => by
          rcases g5 with q | q
          · exact hv k (q ▸ hk)
          · rw [q] at hk; simp at hk; omega) (by simp at g3; omega)
        have kp : ∀ j < base, (ap (x ++ [.arr 7 [encM e.msg] true false]) e1)[j]? = h[j]? := fun j hj => by
          have hjh : j < h.length := by omega
          have hg : h[j]? = some h[j] := List.getElem?_eq_getElem hjh
          rw [hg]
          refine g4 j _ (get_app (by rw [hhx]; exact get_app hg)) fun hk => ?_
          have := hv j hk; omega
        refine ⟨v', h', fun {β} x0 => ?_, a2, fun j hj => by rw [a3 j hj, kp j hj]⟩
        rw [← a1 x0]
        have ic : ∀ k : Go.AM.K β, iaK 10 (.lst 10 b (E.map encV)) (I i) k = k (.ep (encV e) 0) := fun k => iaK_at i rfl hx k
        have ld : ∀ k : Go.AM.K β, ldK 10 true (.ep (encV e) 0) h k = k (.agg (encV e)) := fun k => rfl
        have ns : ∀ k : AV → Hp → Option β, effK (stE 10 (.ptr h.length 0 0 1) (.agg (encV e)) (h ++ [.arr 10 [zE] true false])) (h ++ [.arr 10 [zE] true false]) k = k .u x := fun k => by rw [hhx]; exact nst k
        have m3 : ∀ k : Go.AM.K β, ldK 7 true (.ptr h.length 0 3 1) x k = k (.agg (encM e.msg)) := fun k => by rw [hhx]; exact nl3 k
        have bs : ∀ k : AV → Hp → Option β, effK (bsE 7 zM 1 [(0, .agg (encM e.msg))] x.length) x k = k (.sl 7 x.length 0 1 1 true) (x ++ [.arr 7 [encM e.msg] true false]) := fun k => by simp [bsE, fillS, encM, effK, ap]
        have ae : ∀ k : AV → Hp → Option β, effK (appE 7 56 v (.sl 7 x.length 0 1 1 true) (x ++ [.arr 7 [encM e.msg] true false]) (x ++ [AObj.arr 7 [encM e.msg] true false]).length) (x ++ [.arr 7 [encM e.msg] true false]) k = k v1 (ap (x ++ [.arr 7 [encM e.msg] true false]) e1) := fun k => by rw [g1]; rfl
        show f_network_Known_b2 Try.prog t_network_Known d_network_Known NN (f_network_Known_L2 Try.prog t_network_Known d_network_Known NN x0 n) x0 _ _ _ _ h = _
        simp -implicitDefEqProofs only [f_network_Known_b2, arithK_lss, hlt, decide_true, condK_bool, if_true, ic, ld, nbx, ns, faK_ptr, Nat.zero_add, m3, t_network_Known_37, callK_F, fc, hk, notK_bool, Bool.not_false, bs, ae, f_network_Known_j4, f_network_Known_j3, arithK_add, hw]
    · have : i = E.length := by omega
      subst this
      refine ⟨v, h, fun {β} x0 => ?_, by rw [List.drop_length]; exact G, fun _ _ => rfl⟩
      have c1 : ¬ ((E.length : Int) < (E.length : Int)) := by omega
      show f_network_Known_b2 Try.prog t_network_Known d_network_Known NN (f_network_Known_L2 Try.prog t_network_Known d_network_Known NN x0 n) x0 _ _ _ _ h = _
      simp -implicitDefEqProofs only [f_network_Known_b2, arithK_lss, c1, decide_false, condK_bool, Bool.false_eq_true, if_false]
def knS (l : List Envl) (sch : List Int) (node : Int) : List Msg × Int := if (toS l sch node).2 ≠ 0 then ([], (toS l sch node).2) else if errM (uniqM [] (toS l sch node).1) = 0 then (normL (uniqM [] (toS l sch node).1), 0) else ([], errM (uniqM [] (toS l sch node).1))
theorem toS_len (l : List Envl) (sch : List Int) (node : Int) : (toS l sch node).1.length ≤ sch.length := by
  have := toL_len l sch node
  unfold toS
  split
  · simp
  · split
    · simp
    · exact this
theorem Known_key (l : List Envl) (b : Bool) (sch : List Int) {b2 : Bool} (node : Int) (hl : l.length < 1000000) (hs : sch.length < 100000) {h : Hp} {v a : AV} (hv : cvt false h v = some a) (ha : nrm (.l 1) a = .lst 1 b2 (sch.map enI)) :
    ∃ w h', (∀ {β : Type} (K : AV → Hp → Option β), f_network_Known Try.prog t_network_Known d_network_Known NN K (.lst 10 b (l.map encV)) v (I node) h = K (.tup [w, I (knS l sch node).2]) h') ∧ (w = nilS ∨ ∃ x, w = .lst 7 x ((knS l sch node).1.map encM)) ∧ nrm (.l 7) w = .lst 7 (knS l sch node).1.isEmpty ((knS l sch node).1.map encM) ∧ ∀ j < h.length, h'[j]? = h[j]? := by
  have ft := F_network_to_at l b sch node hl (by omega) hv ha
  have hlen := toS_len l sch node
  by_cases q : (toS l sch node).2 = 0
  · have e1 : ((toS l sch node).2 == 0) = true := by simpa using q
    obtain ⟨E, hE⟩ : ∃ E, E = (toS l sch node).1 := ⟨_, rfl⟩
    rw [← hE] at hlen
    obtain ⟨v', h', a1, a2, a3⟩ := Known_L2 (E := E) (b := E.isEmpty) (base := h.length) (by omega) NN 0 nilS h [] (by omega) (by have := NN_ge; omega) .nil (by simp) (by simp) (Nat.le_refl _)
    rw [List.drop_zero] at a2
    have hu := uniqM_len E []
    simp only [List.length_nil, Nat.zero_add] at hu
    obtain ⟨w, w1, w2⟩ := a2.cvts (fun x st => by cases st <;> simp [encM, isS])
    have fN := F_document_Normal_at (uniqM [] E) (b := true) (by omega) (h := h') (v := v') (a := w) (by simp only [cvts_cons, cvts_nil, w1]) (by rw [w2]; rfl)
    have hS : knS l sch node = if errM (uniqM [] E) = 0 then (normL (uniqM [] E), 0) else ([], errM (uniqM [] E)) := by unfold knS; rw [if_neg (by simp [q]), hE]
    refine ⟨if errM (uniqM [] E) = 0 then SLm true (normL (uniqM [] E)) else .lst 7 true [], h', fun {β} K => ?_, ?_, ?_, a3⟩
    · have x0 : ∀ k : Go.AM.K β, exK (dlvV l sch node) 0 k = k (.lst 10 E.isEmpty (E.map encV)) := fun k => by rw [hE]; rfl
      have x1 : ∀ k : Go.AM.K β, exK (dlvV l sch node) 1 k = k (I (toS l sch node).2) := fun k => rfl
      have y0 : ∀ k : Go.AM.K β, exK (normR true (uniqM [] E)) 0 k = k (if errM (uniqM [] E) = 0 then SLm true (normL (uniqM [] E)) else .lst 7 true []) := fun k => rfl
      have y1 : ∀ k : Go.AM.K β, exK (normR true (uniqM [] E)) 1 k = k (I (errM (uniqM [] E))) := fun k => rfl
      have hS2 : (knS l sch node).2 = errM (uniqM [] E) := by rw [hS]; by_cases z : errM (uniqM [] E) = 0 <;> simp [z]
      rw [hS2]
      simp -implicitDefEqProofs only [f_network_Known, t_network_Known_49, callK_F, ft, x0, x1, eqK_int, e1, Bool.true_xor, Bool.not_true, condK_bool, Bool.false_eq_true, if_false, lenK_lst, List.length_map]
      refine (a1 _).trans ?_
      simp -implicitDefEqProofs only [f_network_Known_j1, t_network_Known_38, callK_F, fN, y0, y1]
    · rw [hS]
      by_cases z : errM (uniqM [] E) = 0
      · exact .inr ⟨true && (normL (uniqM [] E)).isEmpty, by simp only [if_pos z]⟩
      · exact .inr ⟨true, by simp only [if_neg z]; rfl⟩
    · rw [hS]
      by_cases z : errM (uniqM [] E) = 0
      · simp only [if_pos z]; rfl
      · simp only [if_neg z]; rfl
  · have e1 : ((toS l sch node).2 == 0) = false := by simpa using q
    have hS : knS l sch node = ([], (toS l sch node).2) := if_pos q
    rw [hS]
    refine ⟨nilS, h, fun {β} K => ?_, .inl rfl, rfl, fun _ _ => rfl⟩
    have x0 : ∀ k : Go.AM.K β, exK (dlvV l sch node) 0 k = k (.lst 10 (toS l sch node).1.isEmpty ((toS l sch node).1.map encV)) := fun k => rfl
    have x1 : ∀ k : Go.AM.K β, exK (dlvV l sch node) 1 k = k (I (toS l sch node).2) := fun k => rfl
    simp -implicitDefEqProofs only [f_network_Known, t_network_Known_49, callK_F, ft, x0, x1, eqK_int, e1, Bool.true_xor, Bool.not_false, condK_bool, if_true]
end Go.AM


namespace Go.AM
open Go.Proofs
set_option linter.unusedVariables false
set_option linter.unusedSimpArgs false
set_option linter.constructorNameAsVariable false
theorem ltM_irrefl (a : Msg) : ltM a a = false := ltZ_irrefl _
theorem ltM_trans {a b c : Msg} (h1 : ltM a b = true) (h2 : ltM b c = true) : ltM a c = true := ltZ_trans (n := 7) rfl rfl rfl h1 h2
theorem ltM_total {a b : Msg} (h1 : ltM a b = false) (h2 : ltM b a = false) : a = b := by
  have := ltZ_total (n := 7) (a := cellsM a) (b := cellsM b) rfl rfl h1 h2
  obtain ⟨a0, a1, a2, a3, a4, a5, a6⟩ := a
  obtain ⟨b0, b1, b2, b3, b4, b5, b6⟩ := b
  simpa [cellsM] using this
theorem ltM_asymm {a b : Msg} (h : ltM a b = true) : ltM b a = false := by
  cases h2 : ltM b a with
  | false => rfl
  | true => have := ltM_trans h h2; rw [ltM_irrefl] at this; cases this
abbrev Srt (l : List Msg) : Prop := l.Pairwise fun a b => ltM a b = true
theorem srt_unique : ∀ {a b : List Msg}, Srt a → Srt b → (∀ x, x ∈ a ↔ x ∈ b) → a = b
  | [], [], _, _, _ => rfl
  | [], y :: b, _, _, h => by have := (h y).2 (by simp); simp at this
  | x :: a, [], _, _, h => by have := (h x).1 (by simp); simp at this
  | x :: a, y :: b, ha, hb, h => by
    rw [Srt, List.pairwise_cons] at ha hb
    have e : x = y := by
      rcases List.mem_cons.1 ((h x).1 (by simp)) with e | h1
      · exact e
      · rcases List.mem_cons.1 ((h y).2 (by simp)) with e | h2
        · exact e.symm
        · have h3 := hb.1 x h1
          have h4 := ha.1 y h2
          have := ltM_asymm h3
          rw [h4] at this
          cases this
    subst e
    rw [srt_unique ha.2 hb.2 fun z => ?_]
    have hz := h z
    simp only [List.mem_cons] at hz
    constructor
    · intro hm
      rcases hz.1 (.inr hm) with rfl | h1
      · have := ha.1 z hm; rw [ltM_irrefl] at this; cases this
      · exact h1
    · intro hm
      rcases hz.2 (.inr hm) with rfl | h1
      · have := hb.1 z hm; rw [ltM_irrefl] at this; cases this
      · exact h1
theorem mem_compL : ∀ {l : List Msg} {x : Msg}, x ∈ compL l ↔ x ∈ l
  | [], x => by simp [compL]
  | [a], x => by simp [compL]
  | a :: b :: l, x => by
    have ih := @mem_compL (b :: l) x
    simp only [compL]
    split
    · rename_i e
      subst e
      rw [ih]; simp
    · rw [List.mem_cons, ih, List.mem_cons (a := x) (b := a)]
theorem srt_compL : ∀ {l : List Msg}, l.Pairwise (fun a b => ltM b a = false) → Srt (compL l)
  | [], _ => by simp [compL]
  | [a], _ => by simp [compL]
  | a :: b :: l, h => by
    rw [List.pairwise_cons] at h
    have ih := srt_compL h.2
    simp only [compL]
    split
    · exact ih
    · rename_i hne
      rw [Srt, List.pairwise_cons]
      refine ⟨fun x hx => ?_, ih⟩
      rw [mem_compL] at hx
      cases h1 : ltM a x with
      | true => rfl
      | false =>
        have e := ltM_total h1 (h.1 x hx)
        subst e
        rcases List.mem_cons.1 hx with e | hx
        · exact absurd e hne
        · rw [List.pairwise_cons] at h
          exact absurd (ltM_total (h.2.1 a hx) (h.1 b (by simp))) hne
theorem sortM_pw (l : List Msg) : (sortM l).Pairwise fun a b => ltM b a = false := by
  have := List.pairwise_mergeSort (le := fun x y : Msg => !ltM y x) (fun a b c h1 h2 => ?_) (fun a b => ?_) l
  · exact this.imp fun h => by simpa using h
  · simp only [Bool.not_eq_true'] at h1 h2 ⊢
    cases h3 : ltM c a with
    | false => rfl
    | true =>
      cases h4 : ltM a b with
      | true => rw [ltM_trans h3 h4] at h2; cases h2
      | false =>
        have := ltM_total h4 h1
        subst this
        rw [h3] at h2; cases h2
  · cases h1 : ltM b a with
    | false => rfl
    | true => simp [ltM_asymm h1]
theorem mem_sortM {l : List Msg} {x : Msg} : x ∈ sortM l ↔ x ∈ l := by
  unfold sortM
  exact (List.mergeSort_perm l _).mem_iff
theorem normL_srt (l : List Msg) : Srt (normL l) := srt_compL (sortM_pw l)
theorem mem_normL {l : List Msg} {x : Msg} : x ∈ normL l ↔ x ∈ l := by unfold normL; rw [mem_compL, mem_sortM]
theorem normL_eq {l o : List Msg} (h1 : Srt o) (h2 : ∀ x, x ∈ o ↔ x ∈ l) : o = normL l := srt_unique h1 (normL_srt l) fun x => by rw [h2, mem_normL]
end Go.AM


namespace Go.AM
open Go.Proofs
set_option linter.unusedVariables false
set_option linter.unusedSimpArgs false
set_option linter.constructorNameAsVariable false
set_option maxRecDepth 20000
abbrev SL {α : Type} (sz : Nat) (f : α → List AV) (b : Bool) (l : List α) : AV := .lst sz (b && l.isEmpty) (l.map f)
section
variable {β : Type} {P : Program} {T : Tab} {D : DTab} {N : Nat} {K : AV → Hp → Option β}
theorem F_slices_Clone_Envelope_val (l : List Envl) (b : Bool) (hl : l.length < 1000000) (h : Hp) : F_slices_Clone_Envelope [SL 10 encV b l] h = some (SL 10 encV b l, h) := by
  refine (F_slices_Clone_Envelope_run (v := if b && l.isEmpty then nilS else SL 10 encV b l) rfl ?_ h).trans ?_
  · by_cases hb : (b && l.isEmpty) = true
    · simp [f_slices_Clone_Envelope, hb]
    · have hb' : (b && l.isEmpty) = false := by simpa using hb
      have hle : l.length * 80 ≤ 140737488355328 := by omega
      have h2 : ((l.map encV).all fun e => e.length == 10) = true := by simp [encV]
      have h3 : okE false (l.map encV) = true := okE_map (by intro x; simp [encV])
      simp [f_slices_Clone_Envelope, hb', bsE, fillS, appE, readSl, hle, h2, ap]
      rw [cvt_whole rfl (by simp) (by simp) h3, SL, hb']
  · by_cases hb : (b && l.isEmpty) = true
    · obtain ⟨rfl, hl0⟩ := Bool.and_eq_true_iff.1 hb
      have : l = [] := by simpa using hl0
      subst this
      rfl
    · rw [if_neg hb]
      rfl
theorem F_slices_Clone_int_val (l : List Int) (b : Bool) (hl : l.length < 1000000) (h : Hp) : F_slices_Clone_int [SL 1 enI b l] h = some (SL 1 enI b l, h) := by
  refine (F_slices_Clone_int_run (v := if b && l.isEmpty then nilS else SL 1 enI b l) rfl ?_ h).trans ?_
  · by_cases hb : (b && l.isEmpty) = true
    · simp [f_slices_Clone_int, hb]
    · have hb' : (b && l.isEmpty) = false := by simpa using hb
      have hle : l.length * 8 ≤ 140737488355328 := by omega
      have h2 : ((l.map enI).all fun e => e.length == 1) = true := by simp [enI]
      have h3 : okE false (l.map enI) = true := okE_map (by intro x; simp [enI])
      simp [f_slices_Clone_int, hb', bsE, fillS, appE, readSl, hle, h2, ap]
      rw [cvt_whole rfl (by simp) (by simp) h3, SL, hb']
  · by_cases hb : (b && l.isEmpty) = true
    · obtain ⟨rfl, hl0⟩ := Bool.and_eq_true_iff.1 hb
      have : l = [] := by simpa using hl0
      subst this
      rfl
    · rw [if_neg hb]
      rfl
end
attribute [local congr] arithK_cg eqK_cg notK_cg convK_cg pickK_cg buildK_cg ldK_cg nilK_cg sliceK_cg faK_cg fldK_cg iaK_cg iaA_cg lookK_cg capK_cg exK_cg lenK_cg minK_cg maxK_cg effK_cg callK_cg callVK_cg effD_cg gopD_cg grpK_cg condK_cg cond_cg
abbrev g1 : Envl := ⟨1, 2, 1, ⟨1, 1, 0, 0, 1, 2, 10⟩⟩
abbrev g2 : Envl := ⟨1, 2, 2, ⟨2, 1, 0, 0, 1, 2, 10⟩⟩
abbrev g3 : Envl := ⟨1, 2, 3, ⟨3, 1, 0, 0, 1, 2, 10⟩⟩
abbrev exE : List Envl := [g1, g2, g3]
theorem exE_L (T : Tab) (D : DTab) (N n : Nat) : f_law41_example_L2 Try.prog T D N (fun w11_1 h => f_law41_example_j1 Try.prog T D N (fun v g => cvt false g v) w11_1 h) (n + 4) nilS (I 0) [] = some (.lst 10 false (exE.map encV)) := by kernel_rfl
theorem F_law41_example_val (h : Hp) : F_law41_example [] h = some (.lst 10 false (exE.map encV), h) := by
  refine (F_law41_example_run (v := .lst 10 false (exE.map encV)) rfl ?_ h).trans rfl
  obtain ⟨n, hn⟩ : ∃ n, NN = n + 4 := ⟨NN - 4, by have := NN_ge; omega⟩
  refine Eq.trans ?_ (exE_L t_law41_example d_law41_example NN n)
  rw [← hn]
  rfl
abbrev exS : List Int := [2, 0, 2]
theorem ex_to : toS exE exS 2 = ([g3, g1, g3], 0) := by decide +kernel
theorem ex_lost : lostS exE exS = ([1], 0) := by decide +kernel
theorem ex_rep : repS exE exS = (1, 0) := by decide +kernel
theorem ex_cro : croS exE exS = (1, 0) := by decide +kernel
theorem ex_uniq : uniqM [] [g3, g1, g3] = [g3.msg, g1.msg] := by decide +kernel
theorem ex_normN : normL [g3.msg, g1.msg] = [g1.msg, g3.msg] := by
  refine (normL_eq (o := [g1.msg, g3.msg]) (by decide) fun x => ?_).symm
  simp only [List.mem_cons, List.not_mem_nil, or_false]
  constructor
  · rintro (h | h) <;> simp [h]
  · rintro (h | h) <;> simp [h]
theorem ex_kn : knS exE exS 2 = ([g1.msg, g3.msg], 0) := by
  unfold knS
  rw [ex_to]
  simp only [ne_eq, not_true_eq_false, if_false]
  rw [ex_uniq, if_pos (by decide +kernel), ex_normN]
theorem eqI_L (T : Tab) (D : DTab) (N n : Nat) : f_slices_Equal_int_L2 Try.prog T D N (fun h => f_slices_Equal_int_j1 Try.prog T D N (fun v g => cvt false g v) h) (fun w13_4 h => cvt false h w13_4) (n + 2) (.lst 1 false [[I 1]]) (.lst 1 false [[I 1]]) (I 1) (I 0) [] = some (B true) := by kernel_rfl
theorem eq_one (h : Hp) : F_slices_Equal_int [.lst 1 false [[I 1]], .lst 1 false [[I 1]]] h = some (B true, h) := by
  refine F_slices_Equal_int_run rfl ?_ h
  obtain ⟨n, hn⟩ : ∃ n, NN = n + 2 := ⟨NN - 2, by have := NN_ge; omega⟩
  refine Eq.trans ?_ (eqI_L t_slices_Equal_int d_slices_Equal_int NN n)
  rw [← hn]
  rfl
theorem F_law41_awake_val (h : Hp) : F_law41_awake [] h = some (B true, h) := by
  refine F_law41_awake_run rfl ?_ h
  obtain ⟨H, hH⟩ : ∃ H : Hp, H = [.arr 1 [[I 2], [I 0], [I 2]] true false] := ⟨_, rfl⟩
  have bs : ∀ k : AV → Hp → Option AV, effK (bsE 1 [.s (.int .i64 0)] 3 [(0, .s (.int .i64 2)), (1, .s (.int .i64 0)), (2, .s (.int .i64 2))] 0) [] k = k (.sl 1 0 0 3 3 true) H := fun k => by rw [hH]; rfl
  have cv : cvt false H (.sl 1 0 0 3 3 true) = some (.lst 1 false (exS.map enI)) := by rw [hH]; exact cvt_whole (es := exS.map enI) rfl rfl rfl (okE_map fun x => by simp)
  have ft := F_network_to_at exE false exS (b2 := false) 2 (by decide) (by decide) cv rfl
  have fd : R_network_Deliver [.lst 10 false (exE.map encV), .sl 1 0 0 3 3 true, I 2] H = some (dlvV exE exS 2, H) := by
    rw [R_network_Deliver_raw]
    simp -implicitDefEqProofs only [f_network_Deliver, t_network_Deliver_49, callK_F, ft]
    rfl
  have fl := F_network_Lost_at exE false exS (b2 := false) (by decide) (by decide) cv rfl
  have fr := F_network_Repeated_at exE false exS (b2 := false) (by decide) (by decide) cv rfl
  have fc := F_network_Crossed_at exE false exS (b2 := false) (by decide) (by decide) cv rfl
  obtain ⟨w, h', k1, -, k3, k4⟩ := Known_key exE false exS (b2 := false) 2 (by decide) (by decide) cv rfl
  rw [ex_kn] at k1 k3
  have fk : R_network_Known [.lst 10 false (exE.map encV), .sl 1 0 0 3 3 true, I 2] H = some (.tup [w, I 0], h') := by
    rw [R_network_Known_raw]
    exact k1 _
  have hwl : ∀ k : Go.AM.K AV, lenK w k = k (I 2) := fun k => by
    cases w with
    | s v =>
      by_cases hv : v = .slice none 0 0
      · subst hv; simp [nrm, nrmC] at k3
      · exfalso
        have : nrm (.l 7) (.s v) = .s v := by
          cases v <;> try rfl
          rename_i a b c
          cases a <;> try rfl
          cases b <;> try rfl
          cases c <;> try rfl
          exact absurd rfl hv
        rw [this] at k3
        simp at k3
    | lst sz nil es =>
      simp only [nrm, nrmC, AV.lst.injEq] at k3
      obtain ⟨-, -, rfl⟩ := k3
      rfl
    | _ => simp [nrm, nrmC] at k3
  have fe := F_law41_example_val
  have x0 : ∀ k : Go.AM.K AV, exK (dlvV exE exS 2) 0 k = k (.lst 10 false ([g3, g1, g3].map encV)) := fun k => by unfold dlvV; rw [ex_to]; rfl
  have x1 : ∀ k : Go.AM.K AV, exK (dlvV exE exS 2) 1 k = k (I 0) := fun k => by unfold dlvV; rw [ex_to]; rfl
  rw [ex_lost] at fl
  rw [ex_rep] at fr
  rw [ex_cro] at fc
  have tp : ∀ (a b : AV) (k : Go.AM.K AV), exK (.tup [a, b]) 0 k = k a := fun a b k => rfl
  have tq : ∀ (a b : AV) (k : Go.AM.K AV), exK (.tup [a, b]) 1 k = k b := fun a b k => rfl
  have i0 : ∀ k : Go.AM.K AV, iaK 10 (.lst 10 false ([g3, g1, g3].map encV)) (.s (.int .i64 0)) k = k (.ep (encV g3) 0) := fun k => rfl
  have i1 : ∀ k : Go.AM.K AV, iaK 10 (.lst 10 false ([g3, g1, g3].map encV)) (.s (.int .i64 1)) k = k (.ep (encV g1) 0) := fun k => rfl
  have ln : ∀ (h : Hp) (e : Envl) (k : Go.AM.K AV), ldK 1 false (.ep (encV e) 2) h k = k (I e.num) := fun h e k => rfl
  have bq : ∀ k : AV → Hp → Option AV, effK (bsE 1 [.s (.int .i64 0)] 1 [(0, .s (.int .i64 1))] h'.length) h' k = k (.sl 1 h'.length 0 1 1 true) (h' ++ [.arr 1 [[I 1]] true false]) := fun k => by simp [bsE, fillS, effK, ap]
  have fq : F_slices_Equal_int [.lst 1 ([1] : List Int).isEmpty (([1] : List Int).map enI), .sl 1 h'.length 0 1 1 true] (h' ++ [.arr 1 [[I 1]] true false]) = some (B true, h' ++ [.arr 1 [[I 1]] true false]) :=
    closedX_scal' (as' := [.lst 1 false [[I 1]], .lst 1 false [[I 1]]]) (asl := [.lst 1 false [[I 1]], .lst 1 false [[I 1]]]) (by
      have : cvt false (h' ++ [.arr 1 [[I 1]] true false]) (.sl 1 h'.length 0 1 1 true) = some (.lst 1 false [[I 1]]) := cvt_whole (es := [[I 1]]) (by rw [get_new0]; rfl) rfl rfl rfl
      simp only [cvts_cons, cvts_nil, this]
      rfl) rfl rfl (eq_one []) rfl
  have w0 : IntKind.i64.wrap (0 + 0) = 0 := by kernel_rfl
  simp -implicitDefEqProofs only [f_law41_awake, bs, t_law41_awake_45, t_law41_awake_15, t_law41_awake_22, t_law41_awake_24, t_law41_awake_26, t_law41_awake_18, t_law41_awake_46, callK_F, fe, fd, fl, fr, fc, fk, x0, x1, tp, tq, tupP, lenK_lst, List.length_map, List.length_cons, List.length_nil, eqK_int, Bool.false_xor, grpK_tt, i0, i1, faK_ep, Nat.zero_add, ln, beq_self_eq_true, bq, fq, hwl, arithK_add, w0, show (((0 + 1 + 1 + 1 : Nat) : Int) == 3) = true from rfl, show (((1 + 1 + 1 : Nat) : Int) == 3) = true from rfl, show (g3.num == 3) = true from rfl, show (g1.num == 1) = true from rfl, show (((0 + 1 + 1 : Nat) : Int) == 2) = true from rfl]
  rfl
end Go.AM


namespace Go.AM
open Go.RowKit
set_option linter.unusedVariables false
def mu0 (w : World) : Mu := ⟨fun _ => .virt none, w, fun k => k < w.heap.size⟩
theorem rel0 (w : World) : Rel (mu0 w) [] w where
  obj := fun id o h => by simp at h
  sep := fun i j o p b x c y d h => by simp at h
  apart := fun i sz es nil b x c h => by simp at h
  imm := fun k hk => ⟨hk, rfl, fun ⟨id, o, off, c, h, _⟩ => by simp at h⟩
theorem own0 (w : World) (b : Nat) : ¬ Own (mu0 w) [] b := fun ⟨id, o, off, c, h, _⟩ => by simp at h
theorem below0 {w w' : World} {μ' : Mu} {h' : Hp} (s : Step (mu0 w) [] w μ' h' w') : Below w.heap.size w w' :=
  ⟨s.frame.os, s.frame.tape, s.frame.output, s.frame.size, fun k hk => s.frame.block k hk (own0 w k)⟩
theorem row_calls {P : Program} {f : FuncId} {F : Fun} {args : List AV} {h' : Hp} {b : Bool} {W : World} {cargs : Array Value} (hc : CSound P f F) (hF : F args [] = some (.s (.bool b), h')) (hv : VRs (mu0 W) [] args cargs.toList) :
    Calls P f cargs W fun e W' => e = .returned (.bool b) ∧ Below W.heap.size W W' := by
  refine (hc args [] _ h' hF (mu0 W) W cargs (rel0 W) hv).2.mono fun e W' => ?_
  rintro ⟨cv, μ', rfl, s, hr⟩
  simp only [VR] at hr
  exact ⟨by rw [hr.2], below0 s⟩

inductive Ty where
  | int (k : IntKind)
  | bool
  | str
  | sl (e : List Ty)
def tyFs (f : TypeId → Option (List Ty)) (size : TypeId → Nat) : List Field → Nat → Option (List Ty)
  | [], _ => some []
  | x :: l, pos => match f x.type, tyFs f size l (pos + size x.type) with
    | some a, some b => if x.offset = pos ∧ a.length = size x.type then some (a ++ b) else none
    | _, _ => none
def tyOf (P : Program) : Nat → TypeId → Option (List Ty)
  | 0, _ => none
  | n + 1, t => match P.underlying t with
    | some .bool => some [.bool]
    | some (.int k) => some [.int k]
    | some .string => some [.str]
    | some (.slice e) => match tyOf P n e with
      | some l => if l.length = P.cellsOf e ∧ 0 < l.length then some [.sl l] else none
      | none => none
    | some (.struct fs) => match tyFs (tyOf P n) P.cellsOf fs.toList 0 with
      | some l => if l.length = P.cellsOf t then some l else none
      | none => none
    | some (.array m e) => match tyOf P n e with
      | some l => if l.length = P.cellsOf e ∧ m * P.cellsOf e = P.cellsOf t then some (List.replicate m l).flatten else none
      | none => none
    | _ => none
mutual
def HasT : Ty → AV → Prop
  | .int k, a => ∃ n, a = .s (.int k n) ∧ (Lit.int k n).wf = true
  | .bool, a => ∃ b, a = .s (.bool b)
  | .str, a => ∃ s : ByteArray, a = .s (.string s) ∧ s.size ≤ maxLen
  | .sl ts, a => ∃ nil es, a = .lst ts.length nil es ∧ (nil = true → es = []) ∧ es.length ≤ maxLen ∧ ∀ e ∈ es, HasTs ts e
def HasTs : List Ty → List AV → Prop
  | [], asl => asl = []
  | t :: ts, asl => ∃ a as', asl = a :: as' ∧ HasT t a ∧ HasTs ts as'
end
theorem HasTs.app : ∀ {ts us : List Ty} {asl bs : List AV}, HasTs ts asl → HasTs us bs → HasTs (ts ++ us) (asl ++ bs)
  | [], us, asl, bs, h, k => by simp only [HasTs] at h; subst h; exact k
  | t :: ts, us, asl, bs, h, k => by
    simp only [HasTs] at h
    obtain ⟨a, as', rfl, h1, h2⟩ := h
    simp only [List.cons_append, HasTs]
    exact ⟨a, _, rfl, h1, HasTs.app h2 k⟩
theorem HasTs.len : ∀ {ts : List Ty} {asl : List AV}, HasTs ts asl → asl.length = ts.length
  | [], asl, h => by simp only [HasTs] at h; subst h; rfl
  | t :: ts, asl, h => by
    simp only [HasTs] at h
    obtain ⟨a, as', rfl, h1, h2⟩ := h
    simp [HasTs.len h2]
theorem HasT.ok : ∀ {t : Ty} {a : AV}, HasT t a → okC a = true
  | .int k, a, h => by simp only [HasT] at h; obtain ⟨n, rfl, _⟩ := h; rfl
  | .bool, a, h => by simp only [HasT] at h; obtain ⟨n, rfl⟩ := h; rfl
  | .str, a, h => by simp only [HasT] at h; obtain ⟨n, rfl, _⟩ := h; rfl
  | .sl ts, a, h => by simp only [HasT] at h; obtain ⟨n, es, rfl, _⟩ := h; rfl
theorem HasTs.ok : ∀ {ts : List Ty} {asl : List AV}, HasTs ts asl → ∀ x ∈ asl, okC x = true
  | [], asl, h, x, hx => by simp only [HasTs] at h; subst h; simp at hx
  | t :: ts, asl, h, x, hx => by
    simp only [HasTs] at h
    obtain ⟨a, as', rfl, h1, h2⟩ := h
    rcases List.mem_cons.1 hx with rfl | hx
    · exact h1.ok
    · exact h2.ok x hx
theorem VRs_app' {μ : Mu} {h : Hp} : ∀ {asl bs : List AV} {cs ds : List Value}, VRs μ h asl cs → VRs μ h bs ds → VRs μ h (asl ++ bs) (cs ++ ds)
  | [], bs, cs, ds, h1, h2 => by simp only [VRs] at h1; subst h1; exact h2
  | a :: asl, bs, cs, ds, h1, h2 => by
    simp only [VRs] at h1
    obtain ⟨v, vs, rfl, h3, h4⟩ := h1
    simp only [List.cons_append, VRs]
    exact ⟨v, _, rfl, h3, VRs_app' h4 h2⟩
section
variable {H : Type} {enc : TypeId × Value → H} {P : Program} {w : World} {base : Nat} {spare : Nat → Bool} {held : Bool}
def Opened (w : World) (ts : List Ty) (cs : List Value) : Prop := ∃ asl, HasTs ts asl ∧ VRs (mu0 w) [] asl cs ∧ ∀ u ∈ cs, u.oneCell' = true
theorem open_one {t : Ty} {u : Value} {a : AV} (h1 : HasT t a) (h2 : VR (mu0 w) [] a u) (h3 : u.oneCell' = true) : Opened w [t] [u] :=
  ⟨[a], by simp only [HasTs]; exact ⟨a, [], rfl, h1, rfl⟩, by simp only [VRs]; exact ⟨u, [], rfl, h2, rfl⟩, by simpa using h3⟩
theorem open_fs {f : TypeId → Option (List Ty)} {g : TypeId → List Value → Prop} {cs : List Value} (hg : ∀ t ts cs', f t = some ts → g t cs' → Opened w ts cs') : ∀ (l : List Field) (pos : Nat) (ts : List Ty), tyFs f P.cellsOf l pos = some ts →
    (∀ x ∈ l, g x.type ((cs.drop x.offset).take (P.cellsOf x.type))) → Opened w ts ((cs.drop pos).take ts.length)
  | [], pos, ts, h, _ => by
    simp only [tyFs, Option.some.injEq] at h
    subst h
    exact ⟨[], rfl, rfl, by simp⟩
  | x :: l, pos, ts, h, hx => by
    simp only [tyFs] at h
    split at h
    · rename_i a b h1 h2
      split at h
      · rename_i hc
        simp only [Option.some.injEq] at h
        subst h
        obtain ⟨h3, h4⟩ := hc
        obtain ⟨asl, p1, p2, p3⟩ := hg _ _ _ h1 (hx x (by simp))
        obtain ⟨bs, q1, q2, q3⟩ := open_fs hg l _ b h2 (fun y hy => hx y (by simp [hy]))
        have e : (cs.drop pos).take (a ++ b).length = (cs.drop x.offset).take (P.cellsOf x.type) ++ (cs.drop (pos + P.cellsOf x.type)).take b.length := by
          rw [List.length_append, h4, h3, ← List.drop_drop, List.take_add]
        rw [e]
        refine ⟨asl ++ bs, p1.app q1, VRs_app' p2 q2, ?_⟩
        intro u hu
        rcases List.mem_append.1 hu with hu | hu
        · exact p3 u hu
        · exact q3 u hu
      · simp at h
    · simp at h
theorem open_arr {ts : List Ty} {sz : Nat} {cs : List Value} : ∀ (n i0 : Nat), (∀ i, i < n → Opened w ts ((cs.drop ((i0 + i) * sz)).take sz)) → Opened w (List.replicate n ts).flatten ((cs.drop (i0 * sz)).take (n * sz))
  | 0, i0, _ => ⟨[], rfl, by simp [VRs], by simp⟩
  | n + 1, i0, h => by
    obtain ⟨asl, p1, p2, p3⟩ := h 0 (by omega)
    obtain ⟨bs, q1, q2, q3⟩ := open_arr n (i0 + 1) (fun i hi => by have := h (i + 1) (by omega); rwa [show i0 + (i + 1) = i0 + 1 + i by omega] at this)
    have e : (cs.drop (i0 * sz)).take ((n + 1) * sz) = (cs.drop (i0 * sz)).take sz ++ (cs.drop ((i0 + 1) * sz)).take (n * sz) := by
      rw [show (n + 1) * sz = sz + n * sz by rw [Nat.add_mul]; omega, show (i0 + 1) * sz = i0 * sz + sz by rw [Nat.add_mul]; omega, ← List.drop_drop, List.take_add]
    rw [e, List.replicate_succ, List.flatten_cons]
    refine ⟨asl ++ bs, p1.app q1, VRs_app' p2 q2, ?_⟩
    intro u hu
    rcases List.mem_append.1 hu with hu | hu
    · exact p3 u hu
    · exact q3 u hu
theorem open_es {ts : List Ty} {sz b : Nat} (hts : ts.length = sz) : ∀ (n o : Nat), (∀ i, i < n → ∃ cs, Opened w ts cs ∧ cs.length = sz ∧ ∀ j u, cs[j]? = some u → w.cell? ⟨b, o + i * sz + j, none⟩ = some u) →
    ∃ es vs, es.length = n ∧ (∀ e ∈ es, HasTs ts e) ∧ VRf (mu0 w) [] es vs ∧ ∀ j u, vs[j]? = some u → w.cell? ⟨b, o + j, none⟩ = some u ∧ u.oneCell' = true
  | 0, o, h => ⟨[], [], rfl, by simp, rfl, by simp⟩
  | n + 1, o, h => by
    obtain ⟨cs, ⟨asl, h1, h2, h3⟩, h4, h5⟩ := h 0 (by omega)
    obtain ⟨es, vs, k1, k2, k3, k4⟩ := open_es hts n (o + sz) (fun i hi => by
      obtain ⟨cs', q1, q2, q3⟩ := h (i + 1) (by omega)
      refine ⟨cs', q1, q2, fun j u hu => ?_⟩
      rw [← q3 j u hu]
      congr 2
      rw [Nat.add_mul]; omega)
    refine ⟨asl :: es, cs ++ vs, by simp [k1], ?_, ?_, ?_⟩
    · intro e he
      rcases List.mem_cons.1 he with rfl | he
      · exact h1
      · exact k2 e he
    · simp only [VRf]; exact ⟨cs, vs, rfl, h2, k3⟩
    · intro j u hj
      by_cases hlt : j < cs.length
      · rw [List.getElem?_append_left hlt] at hj
        have := h5 j u hj
        exact ⟨by simpa using this, h3 u (List.mem_of_getElem? hj)⟩
      · rw [List.getElem?_append_right (by omega)] at hj
        have := k4 _ _ hj
        rw [show o + sz + (j - cs.length) = o + j by omega] at this
        exact this
theorem cell_lt {a : Addr} {v : Value} (h : w.cell? a = some v) : a.block < w.heap.size := by
  rcases Nat.lt_or_ge a.block w.heap.size with h1 | h1
  · exact h1
  · have : w.heap[a.block]? = none := by simpa using h1
    simp [World.cell?, this] at h
theorem open_cells : ∀ (fuel n : Nat) (t : TypeId) (ts : List Ty) (cs : List Value) (x : DataW H × List MemPlace), tyOf P n t = some ts → DataW.trod enc P w base spare held fuel t cs = some x → Opened w ts cs
  | 0, n, t, ts, cs, x, _, h => by simp [DataW.trod] at h
  | fuel + 1, 0, t, ts, cs, x, h0, _ => by simp [tyOf] at h0
  | fuel + 1, n + 1, t, ts, cs, x, h0, h => by
    unfold tyOf at h0
    cases hu : P.underlying t with
    | none => rw [hu] at h0; simp at h0
    | some T =>
      rw [hu] at h0
      cases T with
      | bool =>
        simp only [Option.some.injEq] at h0
        subst h0
        obtain ⟨b, rfl, _⟩ := DataW.trod_bool hu h
        exact open_one (a := .s (.bool b)) (by simp [HasT]) (by simp [VR, gv]) rfl
      | int k =>
        simp only [Option.some.injEq] at h0
        subst h0
        obtain ⟨m, rfl, _, hw⟩ := DataW.trod_int hu h
        exact open_one (a := .s (.int k m)) (by simp [HasT, hw]) (by simp [VR, gv]) rfl
      | string =>
        simp only [Option.some.injEq] at h0
        subst h0
        obtain ⟨s, rfl, _, hs⟩ := DataW.trod_string hu h
        exact open_one (a := .s (.string s)) (by simp [HasT, hs]) (by simp [VR, gv]) rfl
      | slice e =>
        simp only at h0
        cases he : tyOf P n e with
        | none => rw [he] at h0; simp at h0
        | some l =>
          rw [he] at h0
          simp only at h0
          split at h0
          · rename_i hl
            simp only [Option.some.injEq] at h0
            subst h0
            rcases DataW.trod_slice hu h with ⟨rfl, _⟩ | ⟨a, len, cap, elems, rest, m, hm, rfl, _, hb, h1, h2, h3, h4, _, _⟩
            · refine open_one (a := .lst l.length true []) ?_ ?_ rfl
              · simp only [HasT]; exact ⟨true, [], rfl, fun _ => rfl, by simp, by simp⟩
              · simp only [VR]
                exact ⟨none, 0, rfl, by simp, by simp, rfl, fun _ => rfl, by simp, by simp⟩
            · have hm' : m = fuel := by omega
              subst hm'
              have cell : ∀ i, i < len → ∃ cs, Opened w l cs ∧ cs.length = P.cellsOf e ∧ ∀ j, j < P.cellsOf e → w.cell? ((a.add (i * P.cellsOf e)).add j) = cs[j]? := by
                intro i hi
                have hi' := h4 i hi
                rw [List.getElem?_eq_getElem (by omega), Option.bind_eq_some_iff] at hi'
                obtain ⟨cs, q1, q2⟩ := hi'
                have q3 := World.cells?_some q1
                exact ⟨cs, open_cells m n e l cs _ he q2, q3.2.1, q3.2.2⟩
              obtain ⟨b, off, spot⟩ := a
              have hsp : len ≠ 0 → spot = none := fun hn => by
                obtain ⟨cs, _, q2, q3⟩ := cell 0 (by omega)
                have q4 := q3 0 (by omega)
                rw [List.getElem?_eq_getElem (by omega)] at q4
                simpa [Addr.add] using World.cell?_spot q4
              by_cases hn : len = 0
              · subst hn
                refine open_one (a := .lst l.length false []) ?_ ?_ rfl
                · simp only [HasT]; exact ⟨false, [], rfl, fun _ => rfl, by simp, by simp⟩
                · simp only [VR]
                  exact ⟨_, cap, rfl, by simp, h2, rfl, by simp, by simp, by simp⟩
              · have hs := hsp hn
                subst hs
                obtain ⟨es, vs, k1, k2, k3, k4⟩ := open_es (w := w) (ts := l) (sz := P.cellsOf e) (b := b) hl.1 len off (fun i hi => by
                  obtain ⟨cs, q1, q2, q3⟩ := cell i hi
                  refine ⟨cs, q1, q2, fun j u hj => ?_⟩
                  have hjl := (List.getElem?_eq_some_iff.1 hj).1
                  have := q3 j (by omega)
                  rw [hj] at this
                  rw [← this, Go.WideShapes.add_plain, Go.WideShapes.add_plain])
                refine open_one (a := .lst l.length false es) ?_ ?_ rfl
                · simp only [HasT]; exact ⟨false, es, rfl, by simp, by omega, k2⟩
                · simp only [VR]
                  refine ⟨_, cap, by rw [k1], by omega, h2, rfl, by simp, fun e' he' => ⟨(k2 e' he').len, (k2 e' he').ok⟩, fun _ => ⟨b, off, vs, rfl, ?_, k3, k4⟩⟩
                  obtain ⟨cs, q1, q2, q3⟩ := cell 0 (by omega)
                  have q4 := q3 0 (by omega)
                  rw [List.getElem?_eq_getElem (by omega)] at q4
                  show b < w.heap.size
                  rw [Go.WideShapes.add_plain, Go.WideShapes.add_plain] at q4
                  exact cell_lt q4
          · simp at h0
      | struct fs =>
        simp only at h0
        cases he : tyFs (tyOf P n) P.cellsOf fs.toList 0 with
        | none => rw [he] at h0; simp at h0
        | some l =>
          rw [he] at h0
          simp only at h0
          split at h0
          · rename_i hl
            simp only [Option.some.injEq] at h0
            subst h0
            obtain ⟨xs, m, hm, _, h2, h3, h4⟩ := DataW.trod_struct hu h
            have hm' : m = fuel := by omega
            subst hm'
            have := open_fs (w := w) (P := P) (f := tyOf P n) (g := fun t cs' => ∃ y, DataW.trod enc P w base spare held m t cs' = some y) (cs := cs) (fun t ts cs' q1 ⟨y, q2⟩ => open_cells m n t ts cs' y q1 q2) fs.toList 0 l he (fun y hy => by
              obtain ⟨i, hi⟩ := List.getElem?_of_mem hy
              have hi2 : fs[i]? = some y := by simpa using hi
              have := h4 i y hi2
              have hlt : i < xs.length := by rw [h3]; exact (Array.getElem?_eq_some_iff.1 hi2).1
              rw [List.getElem?_eq_getElem hlt] at this
              exact ⟨_, this⟩)
            rw [List.drop_zero, hl, ← h2, List.take_length] at this
            exact this
          · simp at h0
      | array k e =>
        simp only at h0
        cases he : tyOf P n e with
        | none => rw [he] at h0; simp at h0
        | some l =>
          rw [he] at h0
          simp only at h0
          split at h0
          · rename_i hl
            simp only [Option.some.injEq] at h0
            subst h0
            obtain ⟨xs, m, hm, _, h2, h3, h4⟩ := DataW.trod_array hu h
            have hm' : m = fuel := by omega
            subst hm'
            have := open_arr (w := w) (ts := l) (sz := P.cellsOf e) (cs := cs) k 0 (fun i hi => by
              have h5 := h4 i hi
              rw [List.getElem?_eq_getElem (by omega)] at h5
              have h6 := open_cells m n e l _ _ he h5
              rwa [Nat.zero_add])
            rw [Nat.zero_mul, List.drop_zero, hl.2, ← h2, List.take_length] at this
            exact this
          · simp at h0
      | _ => simp at h0
theorem open_cell {t : TypeId} {v : Value} {d : DataW H} {ps : List MemPlace} {n : Nat} {ty : Ty} (hv : v.cells = #[v]) (ht : tyOf P n t = some [ty]) (hd : DataW.Trod enc P w base spare held t v d ps) : ∃ a, HasT ty a ∧ VR (mu0 w) [] a v := by
  obtain ⟨fuel, hf⟩ := hd
  rw [hv] at hf
  obtain ⟨asl, h1, h2, _⟩ := open_cells fuel n t [ty] _ _ ht hf
  simp only [HasTs] at h1
  obtain ⟨a, as', rfl, h1, rfl⟩ := h1
  simp only [VRs] at h2
  obtain ⟨v', vs', h3, h4, _⟩ := h2
  simp at h3
  exact ⟨a, h1, by rw [h3.1]; exact h4⟩
end
theorem has_list {α : Type} {ts : List Ty} {f : α → List AV} (hf : ∀ cs, HasTs ts cs → ∃ x, cs = f x) {a : AV} (h : HasT (.sl ts) a) : ∃ (l : List α) (b : Bool), a = .lst ts.length (b && l.isEmpty) (l.map f) := by
  simp only [HasT] at h
  obtain ⟨nil, es, rfl, hn, hm, he⟩ := h
  have : ∃ l : List α, es = l.map f := by
    clear hn hm
    induction es with
    | nil => exact ⟨[], rfl⟩
    | cons e es ih =>
      obtain ⟨x, hx⟩ := hf e (he e (by simp))
      obtain ⟨l, hl⟩ := ih (fun e' h' => he e' (by simp [h']))
      exact ⟨x :: l, by simp [hx, hl]⟩
  obtain ⟨l, rfl⟩ := this
  refine ⟨l, nil, ?_⟩
  cases nil with
  | false => rfl
  | true =>
    have : l = [] := by simpa using hn rfl
    subst this; rfl
end Go.AM


namespace Go.AM
open Go.Proofs
set_option linter.unusedVariables false
set_option linter.unusedSimpArgs false
set_option linter.constructorNameAsVariable false
set_option maxRecDepth 20000
attribute [local congr] arithK_cg eqK_cg notK_cg convK_cg pickK_cg buildK_cg ldK_cg nilK_cg sliceK_cg faK_cg fldK_cg iaK_cg iaA_cg lookK_cg capK_cg exK_cg lenK_cg minK_cg maxK_cg effK_cg callK_cg callVK_cg effD_cg gopD_cg grpK_cg condK_cg cond_cg
theorem has_Env {cs : List AV} (h : HasTs [.int .i64, .int .i64, .int .i64, .int .i64, .int .i64, .int .i64, .int .i64, .int .i64, .int .i64, .int .i64] cs) : ∃ p : Envl, cs = encV p := by
  simp only [HasTs, HasT] at h
  obtain ⟨_, _, rfl, ⟨x, rfl, _⟩, _, _, rfl, ⟨y, rfl, _⟩, _, _, rfl, ⟨z, rfl, _⟩, _, _, rfl, ⟨a, rfl, _⟩, _, _, rfl, ⟨b, rfl, _⟩, _, _, rfl, ⟨c, rfl, _⟩, _, _, rfl, ⟨d, rfl, _⟩, _, _, rfl, ⟨e, rfl, _⟩, _, _, rfl, ⟨f, rfl, _⟩, _, _, rfl, ⟨g, rfl, _⟩, rfl⟩ := h
  exact ⟨⟨x, y, z, ⟨a, b, c, d, e, f, g⟩⟩, rfl⟩
theorem has_Envs {a : AV} (h : HasT (.sl [.int .i64, .int .i64, .int .i64, .int .i64, .int .i64, .int .i64, .int .i64, .int .i64, .int .i64, .int .i64]) a) : ∃ (l : List Envl) (b : Bool), a = SL 10 encV b l := has_list (fun _ h => has_Env h) h
theorem has_IntsN {a : AV} (h : HasT (.sl [.int .i64]) a) : ∃ (l : List Int) (b : Bool), a = SL 1 enI b l := has_list (fun cs h => by
  simp only [HasTs, HasT] at h
  obtain ⟨_, _, rfl, ⟨x, rfl, _⟩, rfl⟩ := h
  exact ⟨x, rfl⟩) h
end Go.AM


namespace Go.AM
open Go.Proofs
set_option linter.unusedVariables false
set_option linter.unusedSimpArgs false
set_option linter.constructorNameAsVariable false
set_option maxRecDepth 20000
attribute [local congr] arithK_cg eqK_cg notK_cg convK_cg pickK_cg buildK_cg ldK_cg nilK_cg sliceK_cg faK_cg fldK_cg iaK_cg iaA_cg lookK_cg capK_cg exK_cg lenK_cg minK_cg maxK_cg effK_cg callK_cg callVK_cg effD_cg gopD_cg grpK_cg condK_cg cond_cg
theorem F_ref41_Form_val (e : Envl) (h : Hp) : F_ref41_Form [.agg (encV e)] h = some (I (formE e), h) := by
  refine F_ref41_Form_run (by simp [encV]) ?_ h
  have bx : ∀ k : AV → Hp → Option AV, effK (boxE 10 (.agg (encV e)) ([] : Hp).length) [] k = k (.ptr 0 0 0 1) [.arr 10 [encV e] true false] := fun k => effK_box 10 0 (.agg (encV e)) [] k rfl rfl rfl
  have m0 : ∀ k : Go.AM.K AV, ldK 1 false (.ptr 0 0 0 1) [.arr 10 [encV e] true false] k = k (I e.frm) := fun k => rfl
  have m1 : ∀ k : Go.AM.K AV, ldK 1 false (.ptr 0 0 1 1) [.arr 10 [encV e] true false] k = k (I e.to) := fun k => rfl
  have m2 : ∀ k : Go.AM.K AV, ldK 1 false (.ptr 0 0 2 1) [.arr 10 [encV e] true false] k = k (I e.num) := fun k => rfl
  have m3 : ∀ k : Go.AM.K AV, ldK 7 true (.ptr 0 0 3 1) [.arr 10 [encV e] true false] k = k (.agg (encM e.msg)) := fun k => rfl
  have n1 := F_ref40_Node_val e.frm
  have n2 := F_ref40_Node_val e.to
  have fc := F_ref40_Check_val e.msg
  have hr : (((!isNode e.frm || !isNode e.to) || decide (e.num < 1)) || decide (e.num > 1073741824)) = rangeE e := by
    unfold isNode rangeE
    rw [Bool.eq_iff_iff]
    simp only [Bool.or_eq_true, Bool.not_eq_true', Bool.and_eq_false_iff, decide_eq_true_eq, decide_eq_false_iff_not]
    omega
  simp -implicitDefEqProofs only [f_ref41_Form, bx, faK_ptr, Nat.zero_add, m0, m1, m2, m3, t_ref41_Form_51, t_ref41_Form_68, callK_F, n1, n2, fc, notK_bool, grpK_or, arithK_lss, arithK_gtr, hr, condK_bool, eqK_int, Bool.false_xor, Bool.true_xor]
  unfold formE
  cases rangeE e with
  | true => rfl
  | false =>
    by_cases q1 : e.frm = e.to
    · simp [q1]
    · by_cases q2 : checkM e.msg = 0 <;> simp [q1, q2]
def sameV (x y : Envl) : Bool := (y.frm == x.frm) && (y.num == x.num)
def chkR : List Envl → List Envl → Int × Int
  | _, [] => (-1, 0)
  | pre, x :: l => if formE x ≠ 0 then ((pre.length : Int), formE x) else if pre.any (sameV x) = true then ((pre.length : Int), 6) else chkR (pre ++ [x]) l
theorem chk_eq : ∀ (l pre : List Envl) (c : List ((Int × Int) × Unit)), (∀ p, (fndT c p).isSome = pre.any fun y => y.frm == p.1 && y.num == p.2) → chkE c pre.length l = chkR pre l
  | [], _, _, _ => rfl
  | x :: l, pre, c, h => by
    have h1 := h (x.frm, x.num)
    have h2 : (pre.any fun y => y.frm == x.frm && y.num == x.num) = pre.any (sameV x) := rfl
    rw [h2] at h1
    simp only [chkE, chkR, h1]
    split
    · rfl
    · split
      · rfl
      · have := chk_eq l (pre ++ [x]) (updT c (x.frm, x.num) ()) fun p => by
          have hu := fndT_upd c (x.frm, x.num) p ()
          have e1 : (fndT (updT c (x.frm, x.num) ()) p).isSome = ((fndT (updT c (x.frm, x.num) ()) p).map (·.2)).isSome := by cases fndT (updT c (x.frm, x.num) ()) p <;> rfl
          rw [e1, hu, List.any_append]
          by_cases q : p = (x.frm, x.num)
          · subst q
            simp
          · rw [if_neg q]
            have e2 : ((fndT c p).map (·.2)).isSome = (fndT c p).isSome := by cases fndT c p <;> rfl
            rw [e2, h p]
            have e3 : (x.frm == p.1 && x.num == p.2) = false := by
              rw [Bool.eq_false_iff]
              intro hh
              simp only [Bool.and_eq_true, beq_iff_eq] at hh
              exact q (by rw [hh.1, hh.2])
            simp [e3]
        rw [List.length_append] at this
        exact this
theorem rchk_L5 {T : Tab} {D : DTab} {N : Nat} {x2 : AV → AV → Hp → Option AV} {xr : AV → AV → Hp → Option AV} {l : List Envl} {b : Bool} {i : Nat} {x : Envl} {h : Hp} (hl : l.length < 1000000) (hi : l[i]? = some x) : ∀ (n k : Nat), k ≤ i → i < k + n →
    f_ref41_Check_L5 Try.prog T D N x2 xr n (.lst 10 b (l.map encV)) (I i) (I k) h = if ((l.take i).drop k).any (sameV x) = true then xr (I i) (.s (.int .i64 6)) h else x2 (.lst 10 b (l.map encV)) (I i) h := by
  intro n
  induction n with
  | zero => intro k h1 h2; omega
  | succ n ih =>
    intro k h1 h2
    have hil := (List.getElem?_eq_some_iff.1 hi).1
    show f_ref41_Check_b5 Try.prog T D N (f_ref41_Check_L5 Try.prog T D N x2 xr n) x2 xr _ _ _ h = _
    rcases Nat.lt_or_ge k i with hk | hk
    · have hlt : ((k : Int) < (i : Int)) := by omega
      have hw : IntKind.i64.wrap ((k : Int) + 1) = ((k + 1 : Nat) : Int) := by rw [wrap64 (by omega) (by omega)]; omega
      have hy : l[k]? = some l[k] := List.getElem?_eq_getElem (by omega)
      have hd : (l.take i).drop k = l[k] :: (l.take i).drop (k + 1) := by
        rw [List.drop_eq_getElem_cons (by simp; omega)]
        simp
      rw [hd]
      generalize l[k] = y at hy
      have ik : ∀ kk : Go.AM.K AV, iaK 10 (.lst 10 b (l.map encV)) (I k) kk = kk (.ep (encV y) 0) := fun kk => iaK_at k rfl hy kk
      have ii : ∀ kk : Go.AM.K AV, iaK 10 (.lst 10 b (l.map encV)) (I i) kk = kk (.ep (encV x) 0) := fun kk => iaK_at i rfl hi kk
      have l0 : ∀ (e : Envl) (kk : Go.AM.K AV), ldK 1 false (.ep (encV e) 0) h kk = kk (I e.frm) := fun e kk => rfl
      have l2 : ∀ (e : Envl) (kk : Go.AM.K AV), ldK 1 false (.ep (encV e) 2) h kk = kk (I e.num) := fun e kk => rfl
      simp -implicitDefEqProofs only [f_ref41_Check_b5, arithK_lss, hlt, decide_true, condK_bool, if_true, ik, ii, faK_ep, Nat.zero_add, l0, l2, eqK_int, Bool.false_xor, grpK_and, arithK_add, hw, List.any_cons]
      rw [show ((y.frm == x.frm) && (y.num == x.num)) = sameV x y from rfl]
      cases sameV x y with
      | true => rfl
      | false =>
        simp only [Bool.false_eq_true, if_false, Bool.false_or]
        exact ih (k + 1) hk (by omega)
    · have : k = i := by omega
      subst this
      have c1 : ¬ ((k : Int) < (k : Int)) := by omega
      rw [List.drop_eq_nil_of_le (by simp; omega)]
      simp -implicitDefEqProofs only [f_ref41_Check_b5, arithK_lss, c1, decide_false, condK_bool, Bool.false_eq_true, if_false, List.any_nil]
theorem rchk_L2 {x0 : Hp → Option AV} {xr : AV → AV → Hp → Option AV} {X : Int × Int → Option AV} {l : List Envl} {b : Bool} {h : Hp} (hl : l.length < 1000) (h0 : x0 h = X (-1, 0)) (hr : ∀ (i e : Int), xr (I i) (I e) h = X (i, e)) : ∀ (n : Nat) (pre post : List Envl), l = pre ++ post → post.length < n →
    f_ref41_Check_L2 Try.prog t_ref41_Check d_ref41_Check NN x0 xr n (.lst 10 b (l.map encV)) (I pre.length) h = X (chkR pre post) := by
  intro n
  induction n with
  | zero => intro pre post _ h2; omega
  | succ n ih =>
    intro pre post hc hn
    show f_ref41_Check_b2 Try.prog t_ref41_Check d_ref41_Check NN (f_ref41_Check_L2 Try.prog t_ref41_Check d_ref41_Check NN x0 xr n) x0 xr _ _ h = _
    cases post with
    | nil =>
      have : l = pre := by simpa using hc
      subst this
      have c1 : ¬ ((l.length : Int) < (l.length : Int)) := by omega
      simp -implicitDefEqProofs only [f_ref41_Check_b2, lenK_lst, List.length_map, arithK_lss, c1, decide_false, condK_bool, Bool.false_eq_true, if_false]
      exact h0
    | cons x post =>
      have hi : pre.length < l.length := by rw [hc]; simp
      have hx : l[pre.length]? = some x := by rw [hc]; simp
      have hlt : ((pre.length : Int) < (l.length : Int)) := by omega
      have hw : IntKind.i64.wrap ((pre.length : Int) + 1) = (((pre ++ [x]).length : Nat) : Int) := by rw [wrap64 (by omega) (by omega)]; simp
      have ic : ∀ k : Go.AM.K AV, iaK 10 (.lst 10 b (l.map encV)) (I pre.length) k = k (.ep (encV x) 0) := fun k => iaK_at pre.length rfl hx k
      have ld : ∀ k : Go.AM.K AV, ldK 10 true (.ep (encV x) 0) h k = k (.agg (encV x)) := fun k => rfl
      have ff := F_ref41_Form_val x
      have htk : l.take pre.length = pre := by rw [hc]; simp
      simp -implicitDefEqProofs only [f_ref41_Check_b2, lenK_lst, List.length_map, arithK_lss, hlt, decide_true, condK_bool, if_true, ic, ld, t_ref41_Check_48, callK_F, ff, eqK_int, Bool.true_xor, hr, chkR]
      by_cases q : formE x = 0
      · have qb : (formE x == 0) = true := by simpa using q
        simp only [qb, Bool.not_true, Bool.false_eq_true, if_false]
        rw [if_neg (by simp [q])]
        refine (rchk_L5 (k := 0) (by omega) hx NN (by omega) (by have := NN_ge; omega)).trans ?_
        rw [List.drop_zero, htk]
        split
        · exact hr _ _
        · simp -implicitDefEqProofs only [f_ref41_Check_j4, f_ref41_Check_j3, arithK_add, hw]
          exact ih (pre ++ [x]) post (by simpa using hc) (by simpa using hn)
      · have qb : (formE x == 0) = false := by simpa using q
        simp only [qb, Bool.not_false, if_true]
        rw [if_pos q]
theorem F_ref41_Check_val (l : List Envl) (b : Bool) (hl : l.length < 1000) (h : Hp) : F_ref41_Check [.lst 10 b (l.map encV)] h = some (tupP (chkS l), h) := by
  refine F_ref41_Check_run (a0 := .lst 10 b (l.map encV)) (v := tupP (chkS l)) rfl ?_ h
  unfold chkS
  simp only [nrm, nrmC]
  simp -implicitDefEqProofs only [f_ref41_Check, lenK_lst, List.length_map, arithK_gtr, condK_bool]
  by_cases h64 : 64 < l.length
  · have c : (l.length : Int) > 64 := by omega
    simp only [c, decide_true, if_true, if_pos h64]
    rfl
  · have c : ¬ (l.length : Int) > 64 := by omega
    simp only [c, decide_false, Bool.false_eq_true, if_false, if_neg h64]
    have := chk_eq l [] [] (fun p => rfl)
    simp only [List.length_nil] at this
    rw [this]
    exact rchk_L2 (X := fun r => some (tupP r)) hl rfl (fun i e => rfl) NN [] l rfl (by have := NN_ge; omega)
theorem rstart_L2 {T : Tab} {D : DTab} {N : Nat} {x0 : Hp → Option AV} {xr : AV → Hp → Option AV} {X : Int → Option AV} {l : List Envl} {b : Bool} {sch : List Int} {b2 : Bool} {h : Hp} (hl : sch.length < 1000000) (h0 : x0 h = X 0) (hr : xr (.s (.int .i64 2)) h = X 2) : ∀ (n i : Nat), i ≤ sch.length → sch.length < i + n →
    f_ref41_start_L2 Try.prog T D N x0 xr n (.lst 10 b (l.map encV)) (.lst 1 b2 (sch.map enI)) (I i) h = X (if (sch.drop i).any (outL l) = true then 2 else 0) := by
  intro n
  induction n with
  | zero => intro i h1 h2; omega
  | succ n ih =>
    intro i h1 h2
    show f_ref41_start_b2 Try.prog T D N (f_ref41_start_L2 Try.prog T D N x0 xr n) x0 xr _ _ _ h = _
    rcases Nat.lt_or_ge i sch.length with hi | hi
    · have hlt : ((i : Int) < (sch.length : Int)) := by omega
      have hw : IntKind.i64.wrap ((i : Int) + 1) = ((i + 1 : Nat) : Int) := by rw [wrap64 (by omega) (by omega)]; omega
      have hk : sch[i]? = some sch[i] := List.getElem?_eq_getElem hi
      rw [List.drop_eq_getElem_cons hi]
      generalize sch[i] = s at hk
      have ic : ∀ k : Go.AM.K AV, iaK 1 (.lst 1 b2 (sch.map enI)) (I i) k = k (.ep (enI s) 0) := fun k => iaK_at i rfl hk k
      have ld : ∀ k : Go.AM.K AV, ldK 1 false (.ep (enI s) 0) h k = k (I s) := fun k => rfl
      simp -implicitDefEqProofs only [f_ref41_start_b2, lenK_lst, List.length_map, arithK_lss, hlt, decide_true, condK_bool, if_true, ic, ld, arithK_geq, grpK_or, arithK_add, hw, List.any_cons]
      rw [show (decide (s < 0) || decide (s ≥ (l.length : Int))) = outL l s from rfl]
      cases outL l s with
      | true => exact hr
      | false =>
        simp only [Bool.false_eq_true, if_false, Bool.false_or]
        exact ih (i + 1) hi (by omega)
    · have : i = sch.length := by omega
      subst this
      have c1 : ¬ ((sch.length : Int) < (sch.length : Int)) := by omega
      rw [List.drop_length]
      simp -implicitDefEqProofs only [f_ref41_start_b2, lenK_lst, List.length_map, arithK_lss, c1, decide_false, condK_bool, Bool.false_eq_true, if_false, List.any_nil]
      exact h0
theorem F_ref41_start_val (l : List Envl) (b : Bool) (sch : List Int) (b2 : Bool) (hl : l.length < 1000) (hs : sch.length < 1000000) (h : Hp) : F_ref41_start [.lst 10 b (l.map encV), .lst 1 b2 (sch.map enI)] h = some (I (askS l sch), h) := by
  refine F_ref41_start_run (a0 := .lst 10 b (l.map encV)) (a1 := .lst 1 b2 (sch.map enI)) rfl ?_ h
  simp only [nrm, nrmC]
  have fc := F_ref41_Check_val l b hl
  have x0 : ∀ k : Go.AM.K AV, exK (tupP (chkS l)) 0 k = k (I (chkS l).1) := fun k => rfl
  have x1 : ∀ k : Go.AM.K AV, exK (tupP (chkS l)) 1 k = k (I (chkS l).2) := fun k => rfl
  simp -implicitDefEqProofs only [f_ref41_start, t_ref41_start_14, callK_F, fc, x0, x1, eqK_int, Bool.true_xor, condK_bool, lenK_lst, List.length_map, arithK_gtr]
  by_cases q1 : (chkS l).2 = 0
  · have e1 : ((chkS l).2 == 0) = true := by simpa using q1
    have hS : askS l sch = if 256 < sch.length then 8 else if sch.any (outL l) = true then 2 else 0 := if_neg (by simp [q1])
    rw [hS]
    simp only [e1, Bool.not_true, Bool.false_eq_true, if_false]
    by_cases q2 : 256 < sch.length
    · have c : (sch.length : Int) > 256 := by omega
      simp only [c, decide_true, if_true, if_pos q2]
      rfl
    · have c : ¬ (sch.length : Int) > 256 := by omega
      simp only [c, decide_false, Bool.false_eq_true, if_false, if_neg q2]
      have := rstart_L2 (T := t_ref41_start) (D := d_ref41_start) (N := NN) (x0 := fun h => f_ref41_start_j1 Try.prog t_ref41_start d_ref41_start NN (fun v g => cvt false g v) h) (xr := fun w22_4 h => cvt false h w22_4) (X := fun e => some (I e)) (l := l) (b := b) (sch := sch) (b2 := b2) (h := []) hs rfl rfl NN 0 (by omega) (by have := NN_ge; omega)
      rw [List.drop_zero] at this
      exact this
  · have e1 : ((chkS l).2 == 0) = false := by simpa using q1
    have hS : askS l sch = 1 := if_pos q1
    rw [hS]
    simp only [e1, Bool.not_false, if_true]
    rfl
end Go.AM


namespace Go.AM
open Go.Proofs
set_option linter.unusedVariables false
set_option linter.unusedSimpArgs false
set_option linter.constructorNameAsVariable false
set_option maxRecDepth 20000
attribute [local congr] arithK_cg eqK_cg notK_cg convK_cg pickK_cg buildK_cg ldK_cg nilK_cg sliceK_cg faK_cg fldK_cg iaK_cg iaA_cg lookK_cg capK_cg exK_cg lenK_cg minK_cg maxK_cg effK_cg callK_cg callVK_cg effD_cg gopD_cg grpK_cg condK_cg cond_cg
end Go.AM


namespace Go.AM
open Go.Proofs
set_option linter.unusedVariables false
set_option linter.unusedSimpArgs false
set_option linter.constructorNameAsVariable false
set_option maxRecDepth 20000
attribute [local congr] arithK_cg eqK_cg notK_cg convK_cg pickK_cg buildK_cg ldK_cg nilK_cg sliceK_cg faK_cg fldK_cg iaK_cg iaA_cg lookK_cg capK_cg exK_cg lenK_cg minK_cg maxK_cg effK_cg callK_cg callVK_cg effD_cg gopD_cg grpK_cg condK_cg cond_cg
structure Fol where
  d : Docu
  en : Bool
  an : Int
  cnt : List ((Int × Int) × Int)
def cntP (c : List ((Int × Int) × Int)) (p : Int × Int) : Int := ((fndT c p).map (·.2)).getD 0
def bumpP (c : List ((Int × Int) × Int)) (p : Int × Int) : List ((Int × Int) × Int) := updT c p (IntKind.i64.wrap (cntP c p + 1))
def stepF (mv : Int) (s : Fol) (m : Msg) : Fol :=
  if m.mv ≠ mv then s
  else if m.kind = 1 then { s with d := { s.d with stage := 1, frm := m.frm, to := m.to, sent := m.alc }, cnt := bumpP s.cnt (m.kind, m.num) }
  else if m.kind = 2 then { s with d := { s.d with to := m.to, chg := IntKind.i64.wrap (s.d.chg + 1) }, cnt := bumpP s.cnt (m.kind, m.num) }
  else if m.kind = 3 then { s with d := { s.d with got := m.alc }, an := 2, cnt := bumpP s.cnt (m.kind, m.num) }
  else if m.kind = 4 then { s with an := 3, cnt := bumpP s.cnt (3, m.num) }
  else if m.kind = 5 then { s with en := true }
  else { s with cnt := bumpP s.cnt (m.kind, m.num) }
def begF (mv : Int) : Fol := ⟨⟨mv, 0, 0, 0, 0, 0, 0⟩, false, 0, []⟩
def folF (mv : Int) (l : List Msg) : Fol := l.foldl (stepF mv) (begF mv)
def noneD (mv : Int) : Docu := ⟨mv, 0, 0, 0, 0, 0, 0⟩
section
variable {β : Type}
variable {o0 o1 o2 : AObj} {g t : Hp} {m : Msg}
end
end Go.AM


namespace Go.AM
open Go.Proofs
set_option linter.unusedVariables false
set_option linter.unusedSimpArgs false
set_option linter.constructorNameAsVariable false
set_option maxRecDepth 20000
def ofk (mv k : Int) (l : List Msg) : List Msg := l.filter fun m => m.mv == mv && m.kind == k
theorem ofk_snoc (mv k : Int) (l : List Msg) (m : Msg) : ofk mv k (l ++ [m]) = if m.mv = mv ∧ m.kind = k then ofk mv k l ++ [m] else ofk mv k l := by
  unfold ofk
  rw [List.filter_append]
  by_cases h : m.mv = mv ∧ m.kind = k
  · simp [h]
  · rw [if_neg h]
    have : (m.mv == mv && m.kind == k) = false := by
      rw [Bool.eq_false_iff]; intro q; simp at q; exact h q
    simp [this]
theorem mem_ofk {mv k : Int} {l : List Msg} {m : Msg} : m ∈ ofk mv k l ↔ m ∈ l ∧ m.mv = mv ∧ m.kind = k := by unfold ofk; simp
theorem checkM_kind {m : Msg} (h : checkM m = 0) : 1 ≤ m.kind ∧ m.kind ≤ 5 ∧ 1 ≤ m.mv ∧ m.mv ≤ 1073741824 ∧ formM m = true := by
  unfold checkM at h
  split at h
  · simp at h
  · rename_i hr
    split at h
    · rename_i hf
      simp [rangeM] at hr
      exact ⟨by omega, by omega, by omega, by omega, hf⟩
    · simp at h
theorem ltM_lex {a b : Msg} (h : ltM a b = true) : a.mv ≤ b.mv ∧ (a.mv = b.mv → a.kind ≤ b.kind ∧ (a.kind = b.kind → a.num ≤ b.num)) := by
  unfold ltM cellsM at h
  simp only [ltZ_cons, Bool.or_eq_true, Bool.and_eq_true, decide_eq_true_eq] at h
  omega
def partM (m : Msg) : Option (Int × Int) := if m.kind = 5 then none else if m.kind = 4 then some (3, m.num) else some (m.kind, m.num)
abbrev keysD {α : Type} (c : List ((Int × Int) × α)) : Prop := c.Pairwise fun a b => a.1 ≠ b.1
theorem updT_mem {α : Type} : ∀ {c : List ((Int × Int) × α)} {p : Int × Int} {x : α} {e : (Int × Int) × α}, e ∈ updT c p x → e = (p, x) ∨ e ∈ c
  | [], p, x, e, h => by simp [updT] at h; exact .inl h
  | (q, y) :: c, p, x, e, h => by
    simp only [updT] at h
    split at h
    · rcases List.mem_cons.1 h with h | h
      · exact .inl h
      · exact .inr (by simp [h])
    · rcases List.mem_cons.1 h with h | h
      · exact .inr (by simp [h])
      · rcases updT_mem h with h | h
        · exact .inl h
        · exact .inr (by simp [h])
theorem keysD_upd {α : Type} : ∀ {c : List ((Int × Int) × α)} (p : Int × Int) (x : α), keysD c → keysD (updT c p x)
  | [], p, x, h => by simp [updT]
  | (q, y) :: c, p, x, h => by
    rw [keysD, List.pairwise_cons] at h
    simp only [updT]
    split
    · rename_i e
      subst e
      rw [keysD, List.pairwise_cons]
      exact h
    · rename_i e
      rw [keysD, List.pairwise_cons]
      refine ⟨fun z hz => ?_, keysD_upd p x h.2⟩
      rcases updT_mem hz with rfl | hz
      · exact fun q => e q.symm
      · exact h.1 z hz
theorem cntP_bump (c : List ((Int × Int) × Int)) (p q : Int × Int) : cntP (bumpP c p) q = if q = p then IntKind.i64.wrap (cntP c p + 1) else cntP c q := by
  unfold cntP bumpP
  rw [fndT_upd]
  split <;> rfl
structure InF (mv : Int) (l : List Msg) (s : Fol) : Prop where
  mve : s.d.mv = mv
  stage : s.d.stage = if ofk mv 1 l = [] then 0 else 1
  frm : s.d.frm = (((ofk mv 1 l).getLast?).map (·.frm)).getD 0
  sent : s.d.sent = (((ofk mv 1 l).getLast?).map (·.alc)).getD 0
  to : s.d.to = match (ofk mv 2 l).getLast? with | some c => c.to | none => (((ofk mv 1 l).getLast?).map (·.to)).getD 0
  got : s.d.got = (((ofk mv 3 l).getLast?).map (·.alc)).getD 0
  chg : s.d.chg = (ofk mv 2 l).length
  en : s.en = !(ofk mv 5 l).isEmpty
  an : s.an = if ofk mv 4 l ≠ [] then 3 else if ofk mv 3 l ≠ [] then 2 else 0
  cnt : ∀ p, cntP s.cnt p = (l.countP fun m => m.mv == mv && partM m == some p : Nat)
  keys : keysD s.cnt
theorem ofk_len (mv k : Int) (l : List Msg) : (ofk mv k l).length ≤ l.length := List.length_filter_le _ _
theorem InF.step {mv : Int} {l : List Msg} {s : Fol} {m : Msg} (H : InF mv l s) (hs : Srt (l ++ [m])) (hm : checkM m = 0) (hl : l.length < 1000000) : InF mv (l ++ [m]) (stepF mv s m) := by
  obtain ⟨k0, k5, -⟩ := checkM_kind hm
  have hlt : ∀ x ∈ l, ltM x m = true := fun x hx => by
    rw [Srt, List.pairwise_append] at hs
    exact hs.2.2 x hx m (by simp)
  by_cases hmv : m.mv = mv
  · have noK : ∀ k, m.kind < k → ofk mv k l = [] := fun k hk => by
      rw [List.eq_nil_iff_forall_not_mem]
      intro x hx
      obtain ⟨h1, h2, h3⟩ := mem_ofk.1 hx
      have := ltM_lex (hlt x h1)
      have h4 := this.2 (by omega)
      omega
    have wr : IntKind.i64.wrap (((ofk mv 2 l).length : Int) + 1) = (((ofk mv 2 l).length + 1 : Nat) : Int) := by
      have := ofk_len mv 2 l
      rw [wrap64 (by omega) (by omega)]; rfl
    have cn : ∀ (p q : Int × Int) (b : Bool), ((partM m == some q) = b) → cntP s.cnt q = (l.countP fun m => m.mv == mv && partM m == some q : Nat) → (((l ++ [m]).countP fun m => m.mv == mv && partM m == some q : Nat) : Int) = cntP s.cnt q + if b = true then 1 else 0 := by
      intro p q b hb hc
      rw [List.countP_append, hc]
      simp [hmv, hb]
      cases b <;> rfl
    have wc : ∀ q, IntKind.i64.wrap (cntP s.cnt q + 1) = cntP s.cnt q + 1 := fun q => by
      have h1 := H.cnt q
      have h2 := List.countP_le_length (p := fun m : Msg => m.mv == mv && partM m == some q) (l := l)
      rw [wrap64 (by omega) (by omega)]
    have cb : ∀ p, partM m = some p → ∀ q, cntP (bumpP s.cnt p) q = ((l ++ [m]).countP fun m => m.mv == mv && partM m == some q : Nat) := fun p hp q => by
      rw [cntP_bump]
      by_cases e : q = p
      · subst e
        rw [if_pos rfl, wc, cn q q true (by simp [hp]) (H.cnt q)]; simp
      · rw [if_neg e, cn p q false (by simp [hp]; exact fun h => e h.symm) (H.cnt q)]; simp
    have kb : ∀ p, keysD (bumpP s.cnt p) := fun p => keysD_upd p _ H.keys
    have hk : m.kind = 1 ∨ m.kind = 2 ∨ m.kind = 3 ∨ m.kind = 4 ∨ m.kind = 5 := by omega
    rcases hk with k | k | k | k | k
    · have e2 := noK 2 (by omega)
      have st : stepF mv s m = { s with d := { s.d with stage := 1, frm := m.frm, to := m.to, sent := m.alc }, cnt := bumpP s.cnt (m.kind, m.num) } := by simp [stepF, hmv, k]
      rw [st]
      exact ⟨H.mve, by simp [ofk_snoc, hmv, k], by simp [ofk_snoc, hmv, k], by simp [ofk_snoc, hmv, k], by simp [ofk_snoc, hmv, k, e2], by simp [ofk_snoc, hmv, k, H.got], by simp [ofk_snoc, hmv, k, H.chg], by simp [ofk_snoc, hmv, k, H.en], by simp [ofk_snoc, hmv, k, H.an], cb _ (by simp [partM, k]), kb _⟩
    · have st : stepF mv s m = { s with d := { s.d with to := m.to, chg := IntKind.i64.wrap (s.d.chg + 1) }, cnt := bumpP s.cnt (m.kind, m.num) } := by simp [stepF, hmv, k]
      rw [st]
      exact ⟨H.mve, by simp [ofk_snoc, hmv, k, H.stage], by simp [ofk_snoc, hmv, k, H.frm], by simp [ofk_snoc, hmv, k, H.sent], by simp [ofk_snoc, hmv, k], by simp [ofk_snoc, hmv, k, H.got], by simp [ofk_snoc, hmv, k, H.chg, wr], by simp [ofk_snoc, hmv, k, H.en], by simp [ofk_snoc, hmv, k, H.an], cb _ (by simp [partM, k]), kb _⟩
    · have e4 := noK 4 (by omega)
      have st : stepF mv s m = { s with d := { s.d with got := m.alc }, an := 2, cnt := bumpP s.cnt (m.kind, m.num) } := by simp [stepF, hmv, k]
      rw [st]
      exact ⟨H.mve, by simp [ofk_snoc, hmv, k, H.stage], by simp [ofk_snoc, hmv, k, H.frm], by simp [ofk_snoc, hmv, k, H.sent], by simp [ofk_snoc, hmv, k, H.to], by simp [ofk_snoc, hmv, k], by simp [ofk_snoc, hmv, k, H.chg], by simp [ofk_snoc, hmv, k, H.en], by simp [ofk_snoc, hmv, k, e4], cb _ (by simp [partM, k]), kb _⟩
    · have st : stepF mv s m = { s with an := 3, cnt := bumpP s.cnt (3, m.num) } := by simp [stepF, hmv, k]
      rw [st]
      exact ⟨H.mve, by simp [ofk_snoc, hmv, k, H.stage], by simp [ofk_snoc, hmv, k, H.frm], by simp [ofk_snoc, hmv, k, H.sent], by simp [ofk_snoc, hmv, k, H.to], by simp [ofk_snoc, hmv, k, H.got], by simp [ofk_snoc, hmv, k, H.chg], by simp [ofk_snoc, hmv, k, H.en], by simp [ofk_snoc, hmv, k], cb _ (by simp [partM, k]), kb _⟩
    · have st : stepF mv s m = { s with en := true } := by simp [stepF, hmv, k]
      rw [st]
      exact ⟨H.mve, by simp [ofk_snoc, hmv, k, H.stage], by simp [ofk_snoc, hmv, k, H.frm], by simp [ofk_snoc, hmv, k, H.sent], by simp [ofk_snoc, hmv, k, H.to], by simp [ofk_snoc, hmv, k, H.got], by simp [ofk_snoc, hmv, k, H.chg], by simp [ofk_snoc, hmv, k], by simp [ofk_snoc, hmv, k, H.an], fun q => by rw [cn q q false (by simp [partM, k]) (H.cnt q)]; simp, H.keys⟩
  · have st : stepF mv s m = s := by simp [stepF, hmv]
    have ek : ∀ k, ofk mv k (l ++ [m]) = ofk mv k l := fun k => by rw [ofk_snoc, if_neg (by simp [hmv])]
    rw [st]
    exact ⟨H.mve, by rw [ek]; exact H.stage, by rw [ek]; exact H.frm, by rw [ek]; exact H.sent, by rw [ek, ek]; exact H.to, by rw [ek]; exact H.got, by rw [ek]; exact H.chg, by rw [ek]; exact H.en, by rw [ek, ek]; exact H.an, fun p => by rw [List.countP_append, H.cnt p]; simp [hmv], H.keys⟩
theorem InF.beg (mv : Int) : InF mv [] (begF mv) := ⟨rfl, rfl, rfl, rfl, rfl, rfl, rfl, rfl, rfl, fun p => rfl, .nil⟩
theorem InF.all {mv : Int} {l : List Msg} (hs : Srt l) (hv : ∀ m ∈ l, checkM m = 0) (hl : l.length < 1000000) : ∀ i, i ≤ l.length → InF mv (l.take i) (folF mv (l.take i))
  | 0, _ => by rw [List.take_zero]; exact InF.beg mv
  | i + 1, hi => by
    have ih := InF.all (mv := mv) hs hv hl i (by omega)
    have hx : l[i]? = some l[i] := List.getElem?_eq_getElem (by omega)
    have ht := take_succ_get hx
    have : folF mv (l.take (i + 1)) = stepF mv (folF mv (l.take i)) l[i] := by
      unfold folF; rw [ht, List.foldl_append]; rfl
    rw [this, ht]
    refine ih.step ?_ (hv _ (List.getElem_mem _)) (by simp; omega)
    rw [← ht]
    exact hs.sublist (List.take_sublist _ _)
end Go.AM


namespace Go.AM
open Go.Proofs
set_option linter.unusedVariables false
set_option linter.unusedSimpArgs false
set_option linter.constructorNameAsVariable false
set_option maxRecDepth 20000
attribute [local congr] arithK_cg eqK_cg notK_cg convK_cg pickK_cg buildK_cg ldK_cg nilK_cg sliceK_cg faK_cg fldK_cg iaK_cg iaA_cg lookK_cg capK_cg exK_cg lenK_cg minK_cg maxK_cg effK_cg callK_cg callVK_cg effD_cg gopD_cg grpK_cg condK_cg cond_cg
structure Frs where
  d : Docu
  dis : Int
  ans : Int
  en : Int
  cf : Bool
  rf : Bool
def stepR (mv : Int) (p : Msg) (s : Frs) (m : Msg) : Frs :=
  if m.mv ≠ mv then s
  else if m.kind = 1 then { s with d := { s.d with frm := m.frm, to := m.to, sent := m.alc }, dis := IntKind.i64.wrap (s.dis + 1) }
  else if m.kind = 2 then { s with d := { s.d with to := m.to, chg := IntKind.i64.wrap (s.d.chg + 1) }, cf := s.cf || (p.mv == mv && p.kind == m.kind && p.num == m.num) }
  else if m.kind = 3 then { s with d := { s.d with got := m.alc }, ans := IntKind.i64.wrap (s.ans + 1) }
  else if m.kind = 4 then { s with ans := IntKind.i64.wrap (s.ans + 1), rf := true }
  else { s with en := IntKind.i64.wrap (s.en + 1) }
def foldR (mv : Int) : Msg → Frs → List Msg → Frs
  | _, s, [] => s
  | p, s, m :: l => foldR mv m (stepR mv p s m) l
def begR (mv : Int) : Frs := ⟨noneD mv, 0, 0, 0, false, false⟩
def zeroM : Msg := ⟨0, 0, 0, 0, 0, 0, 0⟩
section
variable {β : Type}
variable {o0 o1 : AObj} {g t : Hp} {m : Msg}
end
end Go.AM


namespace Go.AM
open Go.Proofs
set_option linter.unusedVariables false
set_option linter.unusedSimpArgs false
set_option linter.constructorNameAsVariable false
set_option maxRecDepth 20000
structure InR (mv : Int) (l : List Msg) (s : Frs) : Prop where
  mve : s.d.mv = mv
  stage : s.d.stage = 0
  frm : s.d.frm = (((ofk mv 1 l).getLast?).map (·.frm)).getD 0
  sent : s.d.sent = (((ofk mv 1 l).getLast?).map (·.alc)).getD 0
  to : s.d.to = match (ofk mv 2 l).getLast? with | some c => c.to | none => (((ofk mv 1 l).getLast?).map (·.to)).getD 0
  got : s.d.got = (((ofk mv 3 l).getLast?).map (·.alc)).getD 0
  chg : s.d.chg = (ofk mv 2 l).length
  dis : s.dis = (ofk mv 1 l).length
  ans : s.ans = ((ofk mv 3 l).length + (ofk mv 4 l).length : Nat)
  en : s.en = (ofk mv 5 l).length
  rf : s.rf = !(ofk mv 4 l).isEmpty
  cf : s.cf = decide (¬ ((ofk mv 2 l).map (·.num)).Nodup)
theorem srt_last {l : List Msg} {m p x : Msg} (hs : Srt (l ++ [m])) (hp : (zeroM :: l).getLast? = some p) (hx : x ∈ l) : p ∈ l ∧ (x = p ∨ ltM x p = true) := by
  rcases List.eq_nil_or_concat l with rfl | ⟨l', q, rfl⟩
  · simp at hx
  · rw [List.concat_eq_append] at *
    have : p = q := by rw [← List.cons_append, List.getLast?_append] at hp; simpa using hp.symm
    subst this
    refine ⟨by simp, ?_⟩
    rcases List.mem_append.1 hx with hx | hx
    · right
      rw [Srt, List.append_assoc, List.pairwise_append] at hs
      exact hs.2.2 x hx p (by simp)
    · simp at hx; exact .inl hx
theorem InR.step {mv : Int} {l : List Msg} {s : Frs} {m p : Msg} (H : InR mv l s) (hs : Srt (l ++ [m])) (hm : checkM m = 0) (hp : (zeroM :: l).getLast? = some p) (h0 : mv ≠ 0) (hl : l.length < 1000000) : InR mv (l ++ [m]) (stepR mv p s m) := by
  obtain ⟨k0, k5, -⟩ := checkM_kind hm
  have hlt : ∀ x ∈ l, ltM x m = true := fun x hx => by
    rw [Srt, List.pairwise_append] at hs
    exact hs.2.2 x hx m (by simp)
  by_cases hmv : m.mv = mv
  · have noK : ∀ k, m.kind < k → ofk mv k l = [] := fun k hk => by
      rw [List.eq_nil_iff_forall_not_mem]
      intro x hx
      obtain ⟨h1, h2, h3⟩ := mem_ofk.1 hx
      have := ltM_lex (hlt x h1)
      have h4 := this.2 (by omega)
      omega
    have wr : ∀ k, IntKind.i64.wrap (((ofk mv k l).length : Int) + 1) = ((ofk mv k l).length : Int) + 1 := fun k => by
      have := ofk_len mv k l
      rw [wrap64 (by omega) (by omega)]
    have wa : IntKind.i64.wrap (((((ofk mv 3 l).length + (ofk mv 4 l).length : Nat)) : Int) + 1) = ((((ofk mv 3 l).length + (ofk mv 4 l).length : Nat)) : Int) + 1 := by
      have h3 := ofk_len mv 3 l
      have h4 := ofk_len mv 4 l
      rw [wrap64 (by omega) (by omega)]
    have hk : m.kind = 1 ∨ m.kind = 2 ∨ m.kind = 3 ∨ m.kind = 4 ∨ m.kind = 5 := by omega
    rcases hk with k | k | k | k | k
    · have e2 := noK 2 (by omega)
      have st : stepR mv p s m = { s with d := { s.d with frm := m.frm, to := m.to, sent := m.alc }, dis := IntKind.i64.wrap (s.dis + 1) } := by simp [stepR, hmv, k]
      rw [st]
      exact ⟨H.mve, H.stage, by simp [ofk_snoc, hmv, k], by simp [ofk_snoc, hmv, k], by simp [ofk_snoc, hmv, k, e2], by simp [ofk_snoc, hmv, k, H.got], by simp [ofk_snoc, hmv, k, H.chg], by simp [ofk_snoc, hmv, k, H.dis, wr], by simp [ofk_snoc, hmv, k, H.ans], by simp [ofk_snoc, hmv, k, H.en], by simp [ofk_snoc, hmv, k, H.rf], by simp [ofk_snoc, hmv, k, H.cf]⟩
    · have st : stepR mv p s m = { s with d := { s.d with to := m.to, chg := IntKind.i64.wrap (s.d.chg + 1) }, cf := s.cf || (p.mv == mv && p.kind == m.kind && p.num == m.num) } := by simp [stepR, hmv, k]
      rw [st]
      refine ⟨H.mve, H.stage, by simp [ofk_snoc, hmv, k, H.frm], by simp [ofk_snoc, hmv, k, H.sent], by simp [ofk_snoc, hmv, k], by simp [ofk_snoc, hmv, k, H.got], by simp [ofk_snoc, hmv, k, H.chg, wr], by simp [ofk_snoc, hmv, k, H.dis], by simp [ofk_snoc, hmv, k, H.ans], by simp [ofk_snoc, hmv, k, H.en], by simp [ofk_snoc, hmv, k, H.rf], ?_⟩
      rw [ofk_snoc, if_pos ⟨hmv, k⟩, List.map_append, H.cf]
      rw [Bool.eq_iff_iff]
      simp only [Bool.or_eq_true, Bool.and_eq_true, beq_iff_eq, decide_eq_true_eq]
      rw [List.nodup_append]
      have key : (p.mv = mv ∧ p.kind = m.kind) ∧ p.num = m.num ↔ ∃ x ∈ ofk mv 2 l, x.num = m.num := by
        constructor
        · rintro ⟨⟨h1, h2⟩, h3⟩
          have hpl : p ∈ l := by
            rcases List.eq_nil_or_concat l with rfl | ⟨l', q, rfl⟩
            · simp at hp; subst hp; exact absurd h1.symm h0
            · rw [List.concat_eq_append, ← List.cons_append, List.getLast?_append] at hp
              have : q = p := by simpa using hp
              simp [this]
          exact ⟨p, mem_ofk.2 ⟨hpl, h1, by omega⟩, h3⟩
        · rintro ⟨x, hx, h3⟩
          obtain ⟨h1, h2, h4⟩ := mem_ofk.1 hx
          obtain ⟨hpl, hxp⟩ := srt_last hs hp h1
          rcases hxp with rfl | hxp
          · exact ⟨⟨h2, by omega⟩, h3⟩
          · have a1 := ltM_lex hxp
            have a2 := ltM_lex (hlt p hpl)
            omega
      constructor
      · rintro (h | h)
        · exact fun q => h q.1
        · obtain ⟨x, hx, hxn⟩ := key.1 h
          intro q
          exact q.2.2 x.num (List.mem_map.2 ⟨x, hx, rfl⟩) m.num (by simp) hxn
      · intro h
        by_cases hn : ((ofk mv 2 l).map (·.num)).Nodup
        · right
          refine key.2 ?_
          rcases Classical.em (∃ x ∈ ofk mv 2 l, x.num = m.num) with h2 | h2
          · exact h2
          · refine absurd ⟨hn, by simp, ?_⟩ h
            intro a ha b hb hab
            obtain ⟨x, hx, rfl⟩ := List.mem_map.1 ha
            simp at hb
            exact h2 ⟨x, hx, by rw [hab, hb]⟩
        · exact .inl hn
    · have st : stepR mv p s m = { s with d := { s.d with got := m.alc }, ans := IntKind.i64.wrap (s.ans + 1) } := by simp [stepR, hmv, k]
      rw [st]
      exact ⟨H.mve, H.stage, by simp [ofk_snoc, hmv, k, H.frm], by simp [ofk_snoc, hmv, k, H.sent], by simp [ofk_snoc, hmv, k, H.to], by simp [ofk_snoc, hmv, k], by simp [ofk_snoc, hmv, k, H.chg], by simp [ofk_snoc, hmv, k, H.dis], by rw [H.ans, wa, ofk_snoc, ofk_snoc, if_pos ⟨hmv, k⟩, if_neg (by omega), List.length_append]; simp; omega, by simp [ofk_snoc, hmv, k, H.en], by simp [ofk_snoc, hmv, k, H.rf], by simp [ofk_snoc, hmv, k, H.cf]⟩
    · have st : stepR mv p s m = { s with ans := IntKind.i64.wrap (s.ans + 1), rf := true } := by simp [stepR, hmv, k]
      rw [st]
      exact ⟨H.mve, H.stage, by simp [ofk_snoc, hmv, k, H.frm], by simp [ofk_snoc, hmv, k, H.sent], by simp [ofk_snoc, hmv, k, H.to], by simp [ofk_snoc, hmv, k, H.got], by simp [ofk_snoc, hmv, k, H.chg], by simp [ofk_snoc, hmv, k, H.dis], by rw [H.ans, wa, ofk_snoc, ofk_snoc, if_neg (by omega), if_pos ⟨hmv, k⟩, List.length_append]; simp; omega, by simp [ofk_snoc, hmv, k, H.en], by simp [ofk_snoc, hmv, k], by simp [ofk_snoc, hmv, k, H.cf]⟩
    · have st : stepR mv p s m = { s with en := IntKind.i64.wrap (s.en + 1) } := by simp [stepR, hmv, k]
      rw [st]
      exact ⟨H.mve, H.stage, by simp [ofk_snoc, hmv, k, H.frm], by simp [ofk_snoc, hmv, k, H.sent], by simp [ofk_snoc, hmv, k, H.to], by simp [ofk_snoc, hmv, k, H.got], by simp [ofk_snoc, hmv, k, H.chg], by simp [ofk_snoc, hmv, k, H.dis], by simp [ofk_snoc, hmv, k, H.ans], by simp [ofk_snoc, hmv, k, H.en, wr], by simp [ofk_snoc, hmv, k, H.rf], by simp [ofk_snoc, hmv, k, H.cf]⟩
  · have st : stepR mv p s m = s := by simp [stepR, hmv]
    have ek : ∀ k, ofk mv k (l ++ [m]) = ofk mv k l := fun k => by rw [ofk_snoc, if_neg (by simp [hmv])]
    rw [st]
    exact ⟨H.mve, H.stage, by rw [ek]; exact H.frm, by rw [ek]; exact H.sent, by rw [ek, ek]; exact H.to, by rw [ek]; exact H.got, by rw [ek]; exact H.chg, by rw [ek]; exact H.dis, by rw [ek, ek]; exact H.ans, by rw [ek]; exact H.en, by rw [ek]; exact H.rf, by rw [ek]; exact H.cf⟩
theorem InR.beg (mv : Int) : InR mv [] (begR mv) := ⟨rfl, rfl, rfl, rfl, rfl, rfl, rfl, rfl, rfl, rfl, rfl, rfl⟩
theorem InR.all {mv : Int} (h0 : mv ≠ 0) : ∀ (post pre : List Msg) (p : Msg) (s : Frs), Srt (pre ++ post) → (∀ m ∈ post, checkM m = 0) → (pre ++ post).length < 1000000 → (zeroM :: pre).getLast? = some p → InR mv pre s → InR mv (pre ++ post) (foldR mv p s post)
  | [], pre, p, s, _, _, _, _, H => by simpa [foldR] using H
  | m :: post, pre, p, s, hs, hv, hl, hp, H => by
    have e : pre ++ m :: post = (pre ++ [m]) ++ post := by simp
    rw [e] at hs hl ⊢
    refine InR.all h0 post (pre ++ [m]) m (stepR mv p s m) hs (fun x hx => hv x (by simp [hx])) hl (by rw [← List.cons_append, List.getLast?_append]; simp) (H.step ?_ (hv m (by simp)) hp h0 (by simp at hl; omega))
    exact hs.sublist (List.sublist_append_left _ _)
end Go.AM


namespace Go.AM
open Go.Proofs
set_option linter.unusedVariables false
set_option linter.unusedSimpArgs false
set_option linter.constructorNameAsVariable false
set_option maxRecDepth 20000
attribute [local congr] arithK_cg eqK_cg notK_cg convK_cg pickK_cg buildK_cg ldK_cg nilK_cg sliceK_cg faK_cg fldK_cg iaK_cg iaA_cg lookK_cg capK_cg exK_cg lenK_cg minK_cg maxK_cg effK_cg callK_cg callVK_cg effD_cg gopD_cg grpK_cg condK_cg cond_cg
section
variable {β : Type}
end
end Go.AM


namespace Go.AM
open Go.Proofs
set_option linter.unusedVariables false
set_option linter.unusedSimpArgs false
set_option linter.constructorNameAsVariable false
set_option maxRecDepth 20000
section
variable {β : Type} {P : Program} {T : Tab} {D : DTab} {N : Nat} {K : AV → Hp → Option β}
end
attribute [local congr] arithK_cg eqK_cg notK_cg convK_cg pickK_cg buildK_cg ldK_cg nilK_cg sliceK_cg faK_cg fldK_cg iaK_cg iaA_cg lookK_cg capK_cg exK_cg lenK_cg minK_cg maxK_cg effK_cg callK_cg callVK_cg effD_cg gopD_cg grpK_cg condK_cg cond_cg
def OwnI (h : Hp) (v : AV) (W : List Int) : Prop := (W = [] ∧ v = nilS) ∨ ∃ id, v = .sl 1 id 0 W.length W.length false ∧ h[id]? = some (.arr 1 (W.map enI) true false)
theorem OwnI.cvt {h : Hp} {v : AV} {W : List Int} (O : OwnI h v W) : ∃ a, cvt false h v = some a ∧ ∃ b, nrm (.l 1) a = .lst 1 b (W.map enI) := by
  rcases O with ⟨rfl, rfl⟩ | ⟨id, rfl, h1⟩
  · exact ⟨nilS, rfl, true, rfl⟩
  · exact ⟨.lst 1 false (W.map enI), cvt_whole h1 (by simp) (by simp) (okE_map fun x => by simp), false, rfl⟩
theorem OwnI.len {β : Type} {h : Hp} {v : AV} {W : List Int} (O : OwnI h v W) (k : Go.AM.K β) : lenK v k = k (I W.length) := by
  rcases O with ⟨rfl, rfl⟩ | ⟨id, rfl, h1⟩ <;> rfl
theorem OwnI.mono {h h' : Hp} {v : AV} {W : List Int} (O : OwnI h v W) (hk : ∀ j < h.length, h'[j]? = h[j]?) : OwnI h' v W := by
  rcases O with O | ⟨id, rfl, h1⟩
  · exact .inl O
  · exact .inr ⟨id, rfl, by rw [hk id (List.getElem?_eq_some_iff.1 h1).1, h1]⟩
end Go.AM


namespace Go.AM
open Go.Proofs
set_option linter.unusedVariables false
set_option linter.unusedSimpArgs false
set_option linter.constructorNameAsVariable false
set_option maxRecDepth 20000
section
variable {β : Type} {P : Program} {T : Tab} {D : DTab} {N : Nat} {K : AV → Hp → Option β}
end
attribute [local congr] arithK_cg eqK_cg notK_cg convK_cg pickK_cg buildK_cg ldK_cg nilK_cg sliceK_cg faK_cg fldK_cg iaK_cg iaA_cg lookK_cg capK_cg exK_cg lenK_cg minK_cg maxK_cg effK_cg callK_cg callVK_cg effD_cg gopD_cg grpK_cg condK_cg cond_cg
def uniqI : List Int → List Int → List Int
  | o, [] => o
  | o, s :: r => if o.contains s = true then uniqI o r else uniqI (o ++ [s]) r
theorem hasK_keys (c : List (Int × Int)) (s : Int) : hasK c s = (c.map (·.1)).contains s := by
  unfold hasK
  rw [List.contains_eq_any_beq, List.any_map]
  congr 1
  funext e
  show (e.1 == s) = (s == e.1)
  rw [Bool.eq_iff_iff, beq_iff_eq, beq_iff_eq]
  exact eq_comm
theorem fst_keys : ∀ (r : List Int) (c : List (Int × Int)) (n : Nat), (fstP c n r).map (·.1) = uniqI (c.map (·.1)) r
  | [], c, n => rfl
  | s :: r, c, n => by
    simp only [fstP, uniqI, ← hasK_keys]
    split
    · exact fst_keys r c (n + 1)
    · rw [fst_keys r _ (n + 1), List.map_append]
      rfl
theorem fst_asc : ∀ (r : List Int) (c : List (Int × Int)) (n : Nat), c.Pairwise (fun a b => a.2 < b.2) → (∀ e ∈ c, e.2 < (n : Int)) → (fstP c n r).Pairwise (fun a b => a.2 < b.2)
  | [], c, n, h, _ => h
  | s :: r, c, n, h, hn => by
    simp only [fstP]
    split
    · exact fst_asc r c (n + 1) h fun e he => by have := hn e he; omega
    · refine fst_asc r _ (n + 1) (List.pairwise_append.2 ⟨h, by simp, fun a ha b hb => ?_⟩) fun e he => ?_
      · simp only [List.mem_singleton] at hb; subst hb; exact hn a ha
      · rcases List.mem_append.1 he with he | he
        · have := hn e he; omega
        · simp only [List.mem_singleton] at he; subst he; show (n : Int) < ((n + 1 : Nat) : Int); omega
theorem mem_uniqI : ∀ (r o : List Int) (x : Int), x ∈ uniqI o r → x ∈ o ∨ x ∈ r
  | [], o, x, h => .inl h
  | e :: r, o, x, h => by
    simp only [uniqI] at h
    split at h
    · rcases mem_uniqI r o x h with h | h
      · exact .inl h
      · exact .inr (by simp [h])
    · rcases mem_uniqI r _ x h with h | h
      · rcases List.mem_append.1 h with h | h
        · exact .inl h
        · simp only [List.mem_singleton] at h; exact .inr (by simp [h])
      · exact .inr (by simp [h])
def one (p : Prop) [Decidable p] : Int := if p then 1 else 0
theorem range_sum {α : Type} (c : List α) (f : α → Int) (z : Int) : ((List.range c.length).map fun j => match c[j]? with | some e => f e | none => z).sum = (c.map f).sum := by
  have : ((List.range c.length).map fun j => match c[j]? with | some e => f e | none => z) = c.map f := by
    refine List.ext_getElem (by simp) fun i h1 h2 => ?_
    simp only [List.length_map, List.length_range] at h1
    simp [h1]
  rw [this]
theorem crRow_sum (c : List (Int × Int)) (i a : Int) : crRow c i a = (c.map fun e => one (i < e.1 ∧ a > e.2)).sum := by
  have := range_sum c (fun e => one (i < e.1 ∧ a > e.2)) 0
  rw [← this]
  unfold crRow
  congr 1
  refine List.map_congr_left fun j _ => ?_
  unfold crG one
  cases c[j]? <;> rfl
theorem crN_sum (c : List (Int × Int)) : crN c = (c.map fun x => (c.map fun e => one (x.1 < e.1 ∧ x.2 > e.2)).sum).sum := by
  have := range_sum c (fun x => (c.map fun e => one (x.1 < e.1 ∧ x.2 > e.2)).sum) 0
  rw [← this]
  unfold crN
  congr 1
  refine List.map_congr_left fun j _ => ?_
  unfold crF
  cases c[j]? with
  | none => rfl
  | some e => exact crRow_sum c e.1 e.2
theorem sum_add {α : Type} (f g : α → Int) : ∀ l : List α, (l.map fun x => f x + g x).sum = (l.map f).sum + (l.map g).sum
  | [] => rfl
  | x :: l => by
    simp only [List.map_cons, List.sum_cons, sum_add f g l]
    omega
theorem sum_zero {α : Type} {f : α → Int} : ∀ {l : List α}, (∀ x ∈ l, f x = 0) → (l.map f).sum = 0
  | [], _ => rfl
  | x :: l, h => by
    rw [List.map_cons, List.sum_cons, h x (by simp), sum_zero fun y hy => h y (by simp [hy])]
    rfl
theorem sum_same {α : Type} {f g : α → Int} {l : List α} (h : ∀ x ∈ l, f x = g x) : (l.map f).sum = (l.map g).sum := by rw [List.map_congr_left h]
end Go.AM


namespace Go.AM
open Go.Proofs
set_option linter.unusedVariables false
set_option linter.unusedSimpArgs false
set_option linter.constructorNameAsVariable false
set_option maxRecDepth 20000
section
variable {β : Type} {P : Program} {T : Tab} {D : DTab} {N : Nat} {K : AV → Hp → Option β}
end
attribute [local congr] arithK_cg eqK_cg notK_cg convK_cg pickK_cg buildK_cg ldK_cg nilK_cg sliceK_cg faK_cg fldK_cg iaK_cg iaA_cg lookK_cg capK_cg exK_cg lenK_cg minK_cg maxK_cg effK_cg callK_cg callVK_cg effD_cg gopD_cg grpK_cg condK_cg cond_cg
section
variable {P : Program} {kt : TypeId}
end
theorem mem_uniqI2 : ∀ (r o : List Int) (x : Int), x ∈ o ∨ x ∈ r → x ∈ uniqI o r
  | [], o, x, h => by simpa [uniqI] using h
  | e :: r, o, x, h => by
    simp only [uniqI]
    split
    · rename_i hc
      refine mem_uniqI2 r o x ?_
      rcases h with h | h
      · exact .inl h
      · rcases List.mem_cons.1 h with rfl | h
        · exact .inl (by simpa using hc)
        · exact .inr h
    · refine mem_uniqI2 r _ x ?_
      rcases h with h | h
      · exact .inl (by simp [h])
      · rcases List.mem_cons.1 h with rfl | h
        · exact .inl (by simp)
        · exact .inr h
end Go.AM


namespace Go.AM
open Go.Proofs
set_option linter.unusedVariables false
set_option linter.unusedSimpArgs false
set_option linter.constructorNameAsVariable false
set_option maxRecDepth 20000
attribute [local congr] arithK_cg eqK_cg notK_cg convK_cg pickK_cg buildK_cg ldK_cg nilK_cg sliceK_cg faK_cg fldK_cg iaK_cg iaA_cg lookK_cg capK_cg exK_cg lenK_cg minK_cg maxK_cg effK_cg callK_cg callVK_cg effD_cg gopD_cg grpK_cg condK_cg cond_cg
end Go.AM


namespace Go.AM
open Go.Proofs
set_option linter.unusedVariables false
set_option linter.unusedSimpArgs false
set_option linter.constructorNameAsVariable false
set_option maxRecDepth 20000
section
variable {β : Type} {P : Program} {T : Tab} {D : DTab} {N : Nat} {K : AV → Hp → Option β}
end
attribute [local congr] arithK_cg eqK_cg notK_cg convK_cg pickK_cg buildK_cg ldK_cg nilK_cg sliceK_cg faK_cg fldK_cg iaK_cg iaA_cg lookK_cg capK_cg exK_cg lenK_cg minK_cg maxK_cg effK_cg callK_cg callVK_cg effD_cg gopD_cg grpK_cg condK_cg cond_cg
def few41 (n m : Nat) : Bool := (decide (n ≤ 14) || n == 65) && (decide (m ≤ 24) || m == 257)
theorem few41_bd {n m : Nat} (h : few41 n m = true) : n < 1000 ∧ m < 900 := by simp [few41] at h; omega
theorem F_ref41_Few_val (l : List Envl) (b : Bool) (sch : List Int) (b2 : Bool) (h : Hp) : F_ref41_Few [.lst 10 b (l.map encV), .lst 1 b2 (sch.map enI)] h = some (B (few41 l.length sch.length), h) := by
  refine F_ref41_Few_run (a0 := .lst 10 b (l.map encV)) (a1 := .lst 1 b2 (sch.map enI)) rfl ?_ h
  have e1 : decide ((l.length : Int) ≤ 14) = decide (l.length ≤ 14) := by rw [decide_eq_decide]; omega
  have e2 : decide ((sch.length : Int) ≤ 24) = decide (sch.length ≤ 24) := by rw [decide_eq_decide]; omega
  have e3 : ((l.length : Int) == 65) = (l.length == 65) := by rw [Bool.eq_iff_iff, beq_iff_eq, beq_iff_eq]; omega
  have e4 : ((sch.length : Int) == 257) = (sch.length == 257) := by rw [Bool.eq_iff_iff, beq_iff_eq, beq_iff_eq]; omega
  simp only [nrm, nrmC]
  simp -implicitDefEqProofs only [f_ref41_Few, lenK_lst, List.length_map, arithK_leq, eqK_int, Bool.false_xor, grpK_or, grpK_and, e1, e2, e3, e4]
  rfl
end Go.AM


namespace Go.AM
open Go.Proofs
set_option linter.unusedVariables false
set_option linter.unusedSimpArgs false
set_option linter.constructorNameAsVariable false
set_option maxRecDepth 20000
def fidx (sch : List Int) (s : Int) : Option Nat := sch.findIdx? fun y => y == s
def firstI (sch : List Int) (s : Int) : Int := match fidx sch s with | some j => (j : Int) | none => -1
theorem fidx_app (a : List Int) (x s : Int) : fidx (a ++ [x]) s = match fidx a s with | some j => some j | none => if x = s then some a.length else none := by
  unfold fidx
  rw [List.findIdx?_append]
  cases List.findIdx? (fun y => y == s) a with
  | some j => rfl
  | none =>
    by_cases q : x = s
    · simp [q, List.findIdx?_cons]
    · simp [q, List.findIdx?_cons]
theorem fidx_lt {a : List Int} {s : Int} {j : Nat} (h : fidx a s = some j) : j < a.length := by
  obtain ⟨h1, -⟩ := List.findIdx?_eq_some_iff_getElem.1 h
  exact h1
theorem fidx_mem {a : List Int} {s : Int} : (fidx a s).isSome = a.contains s := by
  unfold fidx
  rw [List.findIdx?_isSome, List.contains_eq_any_beq, Bool.eq_iff_iff, List.any_eq_true, List.any_eq_true]
  constructor
  · rintro ⟨x, h1, h2⟩; exact ⟨x, h1, by simpa using (beq_iff_eq.1 h2).symm⟩
  · rintro ⟨x, h1, h2⟩; exact ⟨x, h1, by simpa using (beq_iff_eq.1 h2).symm⟩
theorem hasK_fidx (sch : List Int) (s : Int) : hasK (fstS sch) s = (fidx sch s).isSome := by
  rw [fidx_mem, hasK_keys, fst_keys, Bool.eq_iff_iff]
  simp only [List.contains_iff_mem, List.map_nil]
  constructor
  · intro h
    rcases mem_uniqI sch [] s h with h | h
    · simp at h
    · exact h
  · intro h; exact mem_uniqI2 sch [] s (.inr h)
theorem mem_fst : ∀ (n : Nat) (sch : List Int), sch.length = n → ∀ k p, (k, p) ∈ fstS sch ↔ ∃ j, fidx sch k = some j ∧ p = (j : Int) := by
  intro n
  induction n with
  | zero =>
    intro sch h k p
    have : sch = [] := List.eq_nil_of_length_eq_zero h
    subst this
    simp [fstS, fstP, fidx]
  | succ n ih =>
    intro sch h k p
    rcases List.eq_nil_or_concat sch with e | ⟨pre, s, e⟩
    · subst e; simp at h
    · rw [List.concat_eq_append] at e
      subst e
      have ihp := ih pre (by simpa using h)
      have hsn : fstS (pre ++ [s]) = if hasK (fstS pre) s = true then fstS pre else fstS pre ++ [(s, (pre.length : Int))] := by rw [fstS, fstP_snoc]; simp
      rw [hsn, fidx_app]
      have hk := hasK_fidx pre s
      cases hf : fidx pre s with
      | some j0 =>
        rw [hf, Option.isSome_some] at hk
        rw [hk, if_pos rfl, ihp]
        cases hfk : fidx pre k with
        | some j => simp
        | none =>
          by_cases q : s = k
          · subst q; rw [hf] at hfk; cases hfk
          · simp [q]
      | none =>
        rw [hf, Option.isSome_none] at hk
        rw [hk, if_neg (by simp), List.mem_append, ihp]
        cases hfk : fidx pre k with
        | some j =>
          have hne : k ≠ s := fun q => by subst q; rw [hf] at hfk; cases hfk
          simp [hne]
        | none =>
          by_cases q : s = k
          · subst q; simp
          · simp [q, Ne.symm q]
theorem sum_perm {α : Type} {f : α → Int} {a b : List α} (h : a.Perm b) : (a.map f).sum = (b.map f).sum := by
  induction h with
  | nil => rfl
  | cons x _ ih => simp only [List.map_cons, List.sum_cons, ih]
  | swap x y l => simp only [List.map_cons, List.sum_cons]; omega
  | trans _ _ h1 h2 => rw [h1, h2]
def oS {γ : Type} (f : γ → Int) : Option γ → Int
  | some e => f e
  | none => 0
theorem sum_fm {α γ : Type} {g : α → Option γ} {f : γ → Int} : ∀ L : List α, ((L.filterMap g).map f).sum = (L.map fun i => oS f (g i)).sum
  | [] => rfl
  | x :: L => by
    rw [List.filterMap_cons, List.map_cons, List.sum_cons, ← sum_fm L]
    cases g x with
    | none => simp [oS]
    | some e => simp [oS]
theorem sum_comm {α γ : Type} (f : α → γ → Int) (B : List γ) : ∀ A : List α, (A.map fun x => (B.map fun y => f x y).sum).sum = (B.map fun y => (A.map fun x => f x y).sum).sum
  | [] => by simp only [List.map_nil, List.sum_nil]; exact (sum_zero fun _ _ => rfl).symm
  | x :: A => by
    simp only [List.map_cons, List.sum_cons, sum_comm f B A]
    rw [← sum_add]
theorem sum_cut (g : Nat → Int) (i : Nat) : ∀ n, i ≤ n → ((List.range n).map fun k => if k < i then g k else 0).sum = ((List.range i).map g).sum := by
  intro n
  induction n with
  | zero =>
    intro h
    have : i = 0 := by omega
    subst this
    rfl
  | succ n ih =>
    intro h
    by_cases q : i = n + 1
    · subst q
      refine sum_same fun k hk => ?_
      rw [if_pos (List.mem_range.1 hk)]
    · rw [List.range_succ, List.map_append, List.sum_append, ih (by omega)]
      simp only [List.map_cons, List.map_nil, List.sum_cons, List.sum_nil]
      rw [if_neg (by omega)]
      omega
def gI (sch : List Int) (i k : Nat) : Int := one (0 ≤ firstI sch i ∧ firstI sch k > firstI sch i)
def rowI (sch : List Int) (i : Nat) : Int := ((List.range i).map (gI sch i)).sum
def totI (sch : List Int) (n : Nat) : Int := ((List.range n).map (rowI sch)).sum
def ent (sch : List Int) (i : Nat) : Option (Int × Int) := (fidx sch (i : Int)).map fun j : Nat => ((i : Int), (j : Int))
theorem crN_first {sch : List Int} {n : Nat} (h : ∀ i ∈ sch, 0 ≤ i ∧ i < (n : Int)) : crN (fstS sch) = totI sch n := by
  have hp : (fstS sch).Perm ((List.range n).filterMap (ent sch)) := by
    refine (List.perm_ext_iff_of_nodup ?_ ?_).2 fun x => ?_
    · exact (fst_asc sch [] 0 .nil (by simp)).imp fun {a b} hab => by rintro rfl; omega
    · refine List.Pairwise.filterMap _ (fun a a' haa b hb b' hb' => ?_) List.pairwise_lt_range
      unfold ent at hb hb'
      obtain ⟨j, -, rfl⟩ := Option.map_eq_some_iff.1 hb
      obtain ⟨j', -, rfl⟩ := Option.map_eq_some_iff.1 hb'
      intro e
      injection e with e1 _
      omega
    · obtain ⟨k, p⟩ := x
      rw [mem_fst sch.length sch rfl, List.mem_filterMap]
      unfold ent
      constructor
      · rintro ⟨j, hj, rfl⟩
        have hm : k ∈ sch := by
          have := fidx_mem (a := sch) (s := k)
          rw [hj] at this
          simpa using this.symm
        have hb := h k hm
        refine ⟨k.toNat, List.mem_range.2 (by omega), ?_⟩
        rw [show ((k.toNat : Nat) : Int) = k by omega, hj]
        rfl
      · rintro ⟨i, hi, he⟩
        obtain ⟨j, hj, e⟩ := Option.map_eq_some_iff.1 he
        injection e with e1 e2
        subst e1 e2
        exact ⟨j, hj, rfl⟩
  rw [crN_sum]
  rw [sum_perm hp]
  rw [sum_same (l := (List.range n).filterMap (ent sch)) (g := fun x => (((List.range n).filterMap (ent sch)).map fun e => one (x.1 < e.1 ∧ x.2 > e.2)).sum) fun x hx => sum_perm hp]
  have h1 : ((List.range n).map fun k => oS (fun x => (((List.range n).filterMap (ent sch)).map fun e => one (x.1 < e.1 ∧ x.2 > e.2)).sum) (ent sch k)).sum = ((List.range n).map fun k => ((List.range n).map fun i => if k < i then gI sch i k else 0).sum).sum := by
    refine sum_same fun k hk => ?_
    cases he : ent sch k with
    | none =>
      refine (sum_zero fun i hi => ?_).symm
      split
      · rename_i hki
        have hf : fidx sch (k : Int) = none := by
          unfold ent at he
          simpa using he
        unfold gI one
        rw [if_neg]
        rintro ⟨q1, q2⟩
        have : firstI sch k = -1 := by unfold firstI; rw [hf]
        omega
      · rfl
    | some x =>
      unfold ent at he
      obtain ⟨j, hj, rfl⟩ := Option.map_eq_some_iff.1 he
      have fk : firstI sch k = (j : Int) := by unfold firstI; rw [hj]
      show (((List.range n).filterMap (ent sch)).map fun e => one ((k : Int) < e.1 ∧ (j : Int) > e.2)).sum = _
      rw [sum_fm]
      refine sum_same fun i hi => ?_
      cases hi2 : ent sch i with
      | none =>
        have hf : fidx sch (i : Int) = none := by
          unfold ent at hi2
          simpa using hi2
        have fi : firstI sch i = -1 := by unfold firstI; rw [hf]
        show (0 : Int) = _
        split
        · unfold gI one
          rw [if_neg (by rw [fi]; omega)]
        · rfl
      | some y =>
        unfold ent at hi2
        obtain ⟨m, hm, rfl⟩ := Option.map_eq_some_iff.1 hi2
        have fi : firstI sch i = (m : Int) := by unfold firstI; rw [hm]
        show one ((k : Int) < (i : Int) ∧ (j : Int) > (m : Int)) = _
        by_cases q : k < i
        · rw [if_pos q]
          unfold gI one
          rw [fk, fi]
          by_cases q2 : (j : Int) > (m : Int)
          · rw [if_pos ⟨by omega, q2⟩, if_pos ⟨by omega, q2⟩]
          · rw [if_neg fun h => q2 h.2, if_neg fun h => q2 h.2]
        · rw [if_neg q]
          unfold one
          rw [if_neg fun h => q (by omega)]
  refine (sum_fm _).trans (h1.trans ?_)
  rw [sum_comm]
  unfold totI
  refine sum_same fun i hi => ?_
  exact sum_cut (gI sch i) i n (by have := List.mem_range.1 hi; omega)
end Go.AM


namespace Go.AM
open Go.Proofs
set_option linter.unusedVariables false
set_option linter.unusedSimpArgs false
set_option linter.constructorNameAsVariable false
set_option maxRecDepth 20000
attribute [local congr] arithK_cg eqK_cg notK_cg convK_cg pickK_cg buildK_cg ldK_cg nilK_cg sliceK_cg faK_cg fldK_cg iaK_cg iaA_cg lookK_cg capK_cg exK_cg lenK_cg minK_cg maxK_cg effK_cg callK_cg callVK_cg effD_cg gopD_cg grpK_cg condK_cg cond_cg
theorem rfirst_L2 {T : Tab} {D : DTab} {N : Nat} {x0 : Hp → Option AV} {xr : AV → Hp → Option AV} {sch : List Int} {b : Bool} {s : Int} {h : Hp} (hl : sch.length < 1000000) : ∀ (n i : Nat), i ≤ sch.length → sch.length < i + n →
    f_ref41_first_L2 Try.prog T D N x0 xr n (.lst 1 b (sch.map enI)) (I s) (I i) h = match (sch.drop i).findIdx? (fun y => y == s) with | some j => xr (I ((i + j : Nat) : Int)) h | none => x0 h := by
  intro n
  induction n with
  | zero => intro i h1 h2; omega
  | succ n ih =>
    intro i h1 h2
    show f_ref41_first_b2 Try.prog T D N (f_ref41_first_L2 Try.prog T D N x0 xr n) x0 xr _ _ _ h = _
    rcases Nat.lt_or_ge i sch.length with hi | hi
    · have hlt : ((i : Int) < (sch.length : Int)) := by omega
      have hw : IntKind.i64.wrap ((i : Int) + 1) = ((i + 1 : Nat) : Int) := by rw [wrap64 (by omega) (by omega)]; omega
      have hk : sch[i]? = some sch[i] := List.getElem?_eq_getElem hi
      rw [List.drop_eq_getElem_cons hi, List.findIdx?_cons]
      generalize sch[i] = y at hk
      have ic : ∀ k : Go.AM.K AV, iaK 1 (.lst 1 b (sch.map enI)) (I i) k = k (.ep (enI y) 0) := fun k => iaK_at i rfl hk k
      have ld : ∀ k : Go.AM.K AV, ldK 1 false (.ep (enI y) 0) h k = k (I y) := fun k => rfl
      simp -implicitDefEqProofs only [f_ref41_first_b2, lenK_lst, List.length_map, arithK_lss, hlt, decide_true, condK_bool, if_true, ic, ld, eqK_int, Bool.false_xor, arithK_add, hw]
      cases hy : (y == s) with
      | true => simp
      | false =>
        simp only [Bool.false_eq_true, if_false]
        refine (ih (i + 1) hi (by omega)).trans ?_
        cases (List.drop (i + 1) sch).findIdx? (fun y => y == s) with
        | none => rfl
        | some j =>
          show xr (I ((i + 1 + j : Nat) : Int)) h = xr (I ((i + (j + 1) : Nat) : Int)) h
          rw [show i + 1 + j = i + (j + 1) by omega]
    · have : i = sch.length := by omega
      subst this
      have c1 : ¬ ((sch.length : Int) < (sch.length : Int)) := by omega
      rw [List.drop_length]
      simp -implicitDefEqProofs only [f_ref41_first_b2, lenK_lst, List.length_map, arithK_lss, c1, decide_false, condK_bool, Bool.false_eq_true, if_false, List.findIdx?_nil]
theorem F_ref41_first_val (sch : List Int) (b : Bool) (s : Int) (hl : sch.length < 1000000) (h : Hp) : F_ref41_first [.lst 1 b (sch.map enI), I s] h = some (I (firstI sch s), h) := by
  refine F_ref41_first_run (a0 := .lst 1 b (sch.map enI)) (a1 := I s) (v := I (firstI sch s)) rfl ?_ h
  have := rfirst_L2 (T := t_ref41_first) (D := d_ref41_first) (N := NN) (x0 := fun h => f_ref41_first_j1 Try.prog t_ref41_first d_ref41_first NN (fun v g => cvt false g v) h) (xr := fun w8_4 h => cvt false h w8_4) (sch := sch) (b := b) (s := s) (h := []) hl NN 0 (by omega) (by have := NN_ge; omega)
  rw [List.drop_zero] at this
  refine Eq.trans this ?_
  unfold firstI fidx
  cases sch.findIdx? (fun y => y == s) with
  | none => rfl
  | some j => simp
theorem first_neg {sch : List Int} {s : Int} : decide (firstI sch s < 0) = !hasK (fstS sch) s := by
  rw [hasK_fidx]
  unfold firstI
  cases fidx sch s with
  | none => rfl
  | some j => simp
theorem first_lt {pre post : List Int} {s : Int} : decide (firstI (pre ++ s :: post) s < (pre.length : Int)) = hasK (fstS pre) s := by
  rw [hasK_fidx]
  have e : fidx (pre ++ s :: post) s = match fidx pre s with | some j => some j | none => some pre.length := by
    unfold fidx
    rw [List.findIdx?_append]
    cases List.findIdx? (fun y => y == s) pre with
    | some j => rfl
    | none => simp [List.findIdx?_cons]
  unfold firstI
  rw [e]
  cases hf : fidx pre s with
  | none => simp
  | some j => have := fidx_lt hf; simp [this]
theorem rlost_L2 {x0 : AV → Hp → Option AV} {X : Option AV} {l : List Envl} {b : Bool} {sch : List Int} {b2 : Bool} (hl : l.length < 1000) (hs : sch.length < 100000) (hx : ∀ v h, Grm 1 enI h v (lostA (fstS sch) l.length) → x0 v h = X) : ∀ (n i : Nat) (v : AV) (h : Hp), i ≤ l.length → l.length < i + n → Grm 1 enI h v (lostA (fstS sch) i) →
    f_ref41_Lost_L2 Try.prog t_ref41_Lost d_ref41_Lost NN x0 n (.lst 10 b (l.map encV)) (.lst 1 b2 (sch.map enI)) v (I i) h = X := by
  intro n
  induction n with
  | zero => intro i v h h1 h2; omega
  | succ n ih =>
    intro i v h h1 h2 G
    show f_ref41_Lost_b2 Try.prog t_ref41_Lost d_ref41_Lost NN (f_ref41_Lost_L2 Try.prog t_ref41_Lost d_ref41_Lost NN x0 n) x0 _ _ _ _ h = _
    rcases Nat.lt_or_ge i l.length with hi | hi
    · have hlt : ((i : Int) < (l.length : Int)) := by omega
      have hw : IntKind.i64.wrap ((i : Int) + 1) = ((i + 1 : Nat) : Int) := by rw [wrap64 (by omega) (by omega)]; omega
      have ff := F_ref41_first_val sch b2 (i : Int) (by omega)
      have hsn := lostA_succ (fstS sch) i
      have hal := lostA_len (fstS sch) i
      simp -implicitDefEqProofs only [f_ref41_Lost_b2, lenK_lst, List.length_map, arithK_lss, hlt, decide_true, condK_bool, if_true, t_ref41_Lost_55, callK_F, ff, first_neg]
      cases hk : hasK (fstS sch) (i : Int) with
      | true =>
        rw [hk, if_pos rfl] at hsn
        simp -implicitDefEqProofs only [Bool.not_true, Bool.false_eq_true, if_false, f_ref41_Lost_j4, f_ref41_Lost_j3, arithK_add, hw]
        exact ih (i + 1) v h hi (by omega) (by rw [hsn]; exact G)
      | false =>
        rw [hk, if_neg (by simp)] at hsn
        have bs : ∀ k : AV → Hp → Option AV, effK (bsE 1 [.s (.int .i64 0)] 1 [(0, I i)] h.length) h k = k (.sl 1 h.length 0 1 1 true) (h ++ [.arr 1 [[I i]] true false]) := fun k => by simp [bsE, fillS, effK, ap]
        obtain ⟨j, hj, hjl⟩ := G.lt
        obtain ⟨v', f, a1, a2, -⟩ := Grm.snocE (f := enI) (sz := 1) (h := h ++ [AObj.arr 1 [[I i]] true false]) (by_ := 8) (m := h.length) (z := (i : Int)) (b := true) (G.app [AObj.arr 1 [[I i]] true false]) (by rw [get_new0]; rfl) (by rw [hj]; simp; omega) (fun x _ => rfl) (by omega)
        have ae : ∀ k : AV → Hp → Option AV, effK (appE 1 8 v (.sl 1 h.length 0 1 1 true) (h ++ [.arr 1 [[I i]] true false]) (h ++ [AObj.arr 1 [[I i]] true false]).length) (h ++ [.arr 1 [[I i]] true false]) k = k v' (ap (h ++ [.arr 1 [[I i]] true false]) f) := fun k => by rw [a1]; rfl
        simp -implicitDefEqProofs only [Bool.not_false, if_true, bs, ae, f_ref41_Lost_j4, f_ref41_Lost_j3, arithK_add, hw]
        exact ih (i + 1) v' _ hi (by omega) (by rw [hsn]; exact a2)
    · have : i = l.length := by omega
      subst this
      have c1 : ¬ ((l.length : Int) < (l.length : Int)) := by omega
      simp -implicitDefEqProofs only [f_ref41_Lost_b2, lenK_lst, List.length_map, arithK_lss, c1, decide_false, condK_bool, Bool.false_eq_true, if_false]
      exact hx v h G
def lostR (l : List Envl) (sch : List Int) : AV := .tup [.lst 1 ((lostS l sch).2 != 0) ((lostS l sch).1.map enI), I (lostS l sch).2]
theorem F_ref41_Lost_val (l : List Envl) (b : Bool) (sch : List Int) (b2 : Bool) (hl : l.length < 1000) (hs : sch.length < 100000) (h : Hp) : F_ref41_Lost [.lst 10 b (l.map encV), .lst 1 b2 (sch.map enI)] h = some (lostR l sch, h) := by
  refine (F_ref41_Lost_run (a0 := .lst 10 b (l.map encV)) (a1 := .lst 1 b2 (sch.map enI)) (v := .tup [if (lostS l sch).2 = 0 then .lst 1 false ((lostS l sch).1.map enI) else nilS, I (lostS l sch).2]) rfl ?_ h).trans ?_
  · simp only [nrm, nrmC]
    have fs := F_ref41_start_val l b sch b2 hl (by omega)
    simp -implicitDefEqProofs only [f_ref41_Lost, t_ref41_Lost_50, callK_F, fs, eqK_int, Bool.true_xor, condK_bool]
    by_cases q : askS l sch = 0
    · have e1 : (askS l sch == 0) = true := by simpa using q
      have hS : lostS l sch = (lostA (fstS sch) l.length, 0) := if_neg (by simp [q])
      rw [hS]
      have bs : ∀ k : AV → Hp → Option AV, effK (bsE 1 [.s (.int .i64 0)] 0 [] ([] : Hp).length) [] k = k (.sl 1 0 0 0 0 true) [.arr 1 [] true false] := fun k => by simp [bsE, fillS, effK, ap]
      simp -implicitDefEqProofs only [e1, Bool.not_true, Bool.false_eq_true, if_false, bs]
      refine rlost_L2 (sch := sch) hl hs (fun v h G => ?_) NN 0 _ _ (by omega) (by have := NN_ge; omega) ⟨0, true, rfl, rfl, fun _ => rfl⟩
      have := G.cvt (fun x st => by cases st <;> simp [isS]) false
      simp only [f_ref41_Lost_j1, cvt_tup, cvts_cons, cvts_nil, this, cvt_s]
      rfl
    · have e1 : (askS l sch == 0) = false := by simpa using q
      have hS : lostS l sch = ([], askS l sch) := if_pos q
      rw [hS]
      simp only [e1, Bool.not_false, if_true, if_neg q]
      rfl
  · unfold lostR
    by_cases q : (lostS l sch).2 = 0
    · have e : ((lostS l sch).2 != 0) = false := by simpa using q
      simp only [if_pos q, e]; rfl
    · have e : ((lostS l sch).2 != 0) = true := by simpa using q
      have hz : (lostS l sch).1 = [] := by
        unfold lostS at q ⊢
        split
        · rfl
        · rename_i h1; rw [if_neg h1] at q; exact absurd rfl q
      simp only [if_neg q, e, hz]; rfl
theorem rrep_L2 {x0 : AV → Hp → Option AV} {X : Option AV} {sch : List Int} {b2 : Bool} {h : Hp} (hs : sch.length < 100000) (hx : x0 (I ((sch.length : Int) - (fstS sch).length)) h = X) : ∀ (n : Nat) (pre post : List Int), sch = pre ++ post → post.length < n →
    f_ref41_Repeated_L2 Try.prog t_ref41_Repeated d_ref41_Repeated NN x0 n (.lst 1 b2 (sch.map enI)) (I ((pre.length : Int) - (fstS pre).length)) (I pre.length) h = X := by
  intro n
  induction n with
  | zero => intro pre post h1 h2; omega
  | succ n ih =>
    intro pre post hc hn
    show f_ref41_Repeated_b2 Try.prog t_ref41_Repeated d_ref41_Repeated NN (f_ref41_Repeated_L2 Try.prog t_ref41_Repeated d_ref41_Repeated NN x0 n) x0 _ _ _ h = _
    cases post with
    | nil =>
      have : sch = pre := by simpa using hc
      subst this
      have c1 : ¬ ((sch.length : Int) < (sch.length : Int)) := by omega
      simp -implicitDefEqProofs only [f_ref41_Repeated_b2, lenK_lst, List.length_map, arithK_lss, c1, decide_false, condK_bool, Bool.false_eq_true, if_false]
      exact hx
    | cons s post =>
      have hi : pre.length < sch.length := by rw [hc]; simp
      have hx' : sch[pre.length]? = some s := by rw [hc]; simp
      have hlt : ((pre.length : Int) < (sch.length : Int)) := by omega
      have hw : IntKind.i64.wrap ((pre.length : Int) + 1) = (((pre ++ [s]).length : Nat) : Int) := by rw [wrap64 (by omega) (by omega)]; simp
      have ic : ∀ k : Go.AM.K AV, iaK 1 (.lst 1 b2 (sch.map enI)) (I pre.length) k = k (.ep (enI s) 0) := fun k => iaK_at pre.length rfl hx' k
      have ld : ∀ k : Go.AM.K AV, ldK 1 false (.ep (enI s) 0) h k = k (I s) := fun k => rfl
      have ff := F_ref41_first_val sch b2 s (by omega)
      have fl : decide (firstI sch s < (pre.length : Int)) = hasK (fstS pre) s := by rw [hc]; exact first_lt
      have hsn : fstS (pre ++ [s]) = if hasK (fstS pre) s = true then fstS pre else fstS pre ++ [(s, (pre.length : Int))] := by rw [fstS, fstP_snoc]; simp
      have hfl : (fstS pre).length ≤ pre.length := by simpa using fstP_len pre [] 0
      have hpl : ((pre ++ [s]).length : Int) = (pre.length : Int) + 1 := by simp
      simp -implicitDefEqProofs only [f_ref41_Repeated_b2, lenK_lst, List.length_map, arithK_lss, hlt, decide_true, condK_bool, if_true, ic, ld, t_ref41_Repeated_55, callK_F, ff, fl]
      cases hk : hasK (fstS pre) s with
      | true =>
        rw [hk, if_pos rfl] at hsn
        have w2 : IntKind.i64.wrap ((pre.length : Int) - ((fstS pre).length : Int) + 1) = ((pre ++ [s]).length : Int) - ((fstS (pre ++ [s])).length : Int) := by rw [wrap64 (by omega) (by omega), hsn, hpl]; omega
        simp -implicitDefEqProofs only [if_true, arithK_add, w2, f_ref41_Repeated_j4, f_ref41_Repeated_j3, hw]
        exact ih (pre ++ [s]) post (by simpa using hc) (by simpa using hn)
      | false =>
        rw [hk, if_neg (by simp)] at hsn
        have e2 : (pre.length : Int) - ((fstS pre).length : Int) = ((pre ++ [s]).length : Int) - ((fstS (pre ++ [s])).length : Int) := by rw [hsn, hpl, List.length_append]; simp; omega
        simp -implicitDefEqProofs only [Bool.false_eq_true, if_false, arithK_add, f_ref41_Repeated_j4, f_ref41_Repeated_j3, hw]
        rw [e2]
        exact ih (pre ++ [s]) post (by simpa using hc) (by simpa using hn)
theorem F_ref41_Repeated_val (l : List Envl) (b : Bool) (sch : List Int) (b2 : Bool) (hl : l.length < 1000) (hs : sch.length < 100000) (h : Hp) : F_ref41_Repeated [.lst 10 b (l.map encV), .lst 1 b2 (sch.map enI)] h = some (tupP (repS l sch), h) := by
  refine (F_ref41_Repeated_run (a0 := .lst 10 b (l.map encV)) (a1 := .lst 1 b2 (sch.map enI)) (v := tupP (repS l sch)) rfl ?_ h).trans rfl
  simp only [nrm, nrmC]
  have fs := F_ref41_start_val l b sch b2 hl (by omega)
  simp -implicitDefEqProofs only [f_ref41_Repeated, t_ref41_Repeated_50, callK_F, fs, eqK_int, Bool.true_xor, condK_bool]
  by_cases q : askS l sch = 0
  · have e1 : (askS l sch == 0) = true := by simpa using q
    have hS : repS l sch = ((sch.length : Int) - (fstS sch).length, 0) := if_neg (by simp [q])
    rw [hS]
    simp only [e1, Bool.not_true, Bool.false_eq_true, if_false]
    exact rrep_L2 hs rfl NN [] sch rfl (by have := NN_ge; omega)
  · have e1 : (askS l sch == 0) = false := by simpa using q
    have hS : repS l sch = (0, askS l sch) := if_pos q
    rw [hS]
    simp only [e1, Bool.not_false, if_true]
    rfl
end Go.AM


namespace Go.AM
open Go.Proofs
set_option linter.unusedVariables false
set_option linter.unusedSimpArgs false
set_option linter.constructorNameAsVariable false
set_option maxRecDepth 20000
attribute [local congr] arithK_cg eqK_cg notK_cg convK_cg pickK_cg buildK_cg ldK_cg nilK_cg sliceK_cg faK_cg fldK_cg iaK_cg iaA_cg lookK_cg capK_cg exK_cg lenK_cg minK_cg maxK_cg effK_cg callK_cg callVK_cg effD_cg gopD_cg grpK_cg condK_cg cond_cg
def pI (sch : List Int) (i k : Nat) : Int := ((List.range k).map (gI sch i)).sum
theorem pI_succ (sch : List Int) (i k : Nat) : pI sch i (k + 1) = pI sch i k + gI sch i k := by
  unfold pI
  rw [List.range_succ, List.map_append, List.sum_append]
  simp
theorem totI_succ (sch : List Int) (i : Nat) : totI sch (i + 1) = totI sch i + rowI sch i := by
  unfold totI
  rw [List.range_succ, List.map_append, List.sum_append]
  simp
theorem gI_bd (sch : List Int) (i k : Nat) : 0 ≤ gI sch i k ∧ gI sch i k ≤ 1 := by
  unfold gI one
  split <;> simp
theorem pI_bd (sch : List Int) (i k : Nat) : 0 ≤ pI sch i k ∧ pI sch i k ≤ k := by
  have := sum_bd (gI_bd sch i) (List.range k)
  rw [List.length_range, Int.one_mul] at this
  exact this
theorem totI_bd (sch : List Int) : ∀ i : Nat, i ≤ 64 → 0 ≤ totI sch i ∧ totI sch i ≤ 64 * i
  | 0, _ => by simp [totI]
  | i + 1, h => by
    have h1 := totI_bd sch i (by omega)
    have h2 := pI_bd sch i i
    rw [totI_succ]
    show 0 ≤ totI sch i + pI sch i i ∧ totI sch i + pI sch i i ≤ 64 * ((i + 1 : Nat) : Int)
    omega
theorem rcr_L5 {N : Nat} {x2 : AV → AV → AV → AV → Hp → Option AV} {v0 : AV} {sch : List Int} {b2 : Bool} {i : Nat} {base : Int} {h : Hp} (hs : sch.length < 100000) (hi : i ≤ 64) (hb : 0 ≤ base ∧ base ≤ 100000) : ∀ (n k : Nat), k ≤ i → i < k + n →
    f_ref41_Crossed_L5 Try.prog t_ref41_Crossed d_ref41_Crossed N x2 n v0 (.lst 1 b2 (sch.map enI)) (I (base + pI sch i k)) (I i) (I k) h = x2 v0 (.lst 1 b2 (sch.map enI)) (I (base + rowI sch i)) (I i) h := by
  intro n
  induction n with
  | zero => intro k h1 h2; omega
  | succ n ih =>
    intro k h1 h2
    show f_ref41_Crossed_b5 Try.prog t_ref41_Crossed d_ref41_Crossed N (f_ref41_Crossed_L5 Try.prog t_ref41_Crossed d_ref41_Crossed N x2 n) x2 _ _ _ _ _ h = _
    rcases Nat.lt_or_ge k i with hk | hk
    · have hlt : ((k : Int) < (i : Int)) := by omega
      have hw : IntKind.i64.wrap ((k : Int) + 1) = ((k + 1 : Nat) : Int) := by rw [wrap64 (by omega) (by omega)]; omega
      have f1 := F_ref41_first_val sch b2 (k : Int) (by omega)
      have f2 := F_ref41_first_val sch b2 (i : Int) (by omega)
      have hp := pI_succ sch i k
      have hpb := pI_bd sch i k
      simp -implicitDefEqProofs only [f_ref41_Crossed_b5, arithK_lss, hlt, decide_true, condK_bool, if_true, t_ref41_Crossed_55, callK_F, f1, f2, arithK_geq, arithK_gtr, grpK_and]
      by_cases q : 0 ≤ firstI sch i ∧ firstI sch k > firstI sch i
      · have d : (decide (firstI sch i ≥ 0) && decide (firstI sch k > firstI sch i)) = true := by
          simp only [Bool.and_eq_true, decide_eq_true_eq]; exact ⟨q.1, q.2⟩
        have hg : gI sch i k = 1 := if_pos q
        rw [hg] at hp
        have w2 : IntKind.i64.wrap (base + pI sch i k + 1) = base + pI sch i (k + 1) := by rw [wrap64 (by omega) (by omega), hp]; omega
        simp -implicitDefEqProofs only [d, if_true, arithK_add, w2, f_ref41_Crossed_j7, f_ref41_Crossed_j6, hw]
        exact ih (k + 1) hk (by omega)
      · have d : (decide (firstI sch i ≥ 0) && decide (firstI sch k > firstI sch i)) = false := by
          rw [Bool.eq_false_iff]
          intro hh
          simp only [Bool.and_eq_true, decide_eq_true_eq] at hh
          exact q hh
        have hg : gI sch i k = 0 := if_neg q
        rw [hg, Int.add_zero] at hp
        simp -implicitDefEqProofs only [d, Bool.false_eq_true, if_false, arithK_add, f_ref41_Crossed_j7, f_ref41_Crossed_j6, hw]
        rw [← hp]
        exact ih (k + 1) hk (by omega)
    · have : k = i := by omega
      subst this
      have c1 : ¬ ((k : Int) < (k : Int)) := by omega
      simp -implicitDefEqProofs only [f_ref41_Crossed_b5, arithK_lss, c1, decide_false, condK_bool, Bool.false_eq_true, if_false]
      rfl
theorem rcr_L2 {x0 : AV → Hp → Option AV} {X : Option AV} {l : List Envl} {b : Bool} {sch : List Int} {b2 : Bool} {h : Hp} (hl : l.length ≤ 64) (hs : sch.length < 100000) (hx : x0 (I (totI sch l.length)) h = X) : ∀ (n i : Nat), i ≤ l.length → l.length < i + n →
    f_ref41_Crossed_L2 Try.prog t_ref41_Crossed d_ref41_Crossed NN x0 n (.lst 10 b (l.map encV)) (.lst 1 b2 (sch.map enI)) (I (totI sch i)) (I i) h = X := by
  intro n
  induction n with
  | zero => intro i h1 h2; omega
  | succ n ih =>
    intro i h1 h2
    show f_ref41_Crossed_b2 Try.prog t_ref41_Crossed d_ref41_Crossed NN (f_ref41_Crossed_L2 Try.prog t_ref41_Crossed d_ref41_Crossed NN x0 n) x0 _ _ _ _ h = _
    rcases Nat.lt_or_ge i l.length with hi | hi
    · have hlt : ((i : Int) < (l.length : Int)) := by omega
      have hw : IntKind.i64.wrap ((i : Int) + 1) = ((i + 1 : Nat) : Int) := by rw [wrap64 (by omega) (by omega)]; omega
      have hb := totI_bd sch i (by omega)
      simp -implicitDefEqProofs only [f_ref41_Crossed_b2, lenK_lst, List.length_map, arithK_lss, hlt, decide_true, condK_bool, if_true]
      have := rcr_L5 (N := NN) (x2 := fun w19_0 w19_1 w19_7 w19_8 h => f_ref41_Crossed_j4 Try.prog t_ref41_Crossed d_ref41_Crossed NN (f_ref41_Crossed_L2 Try.prog t_ref41_Crossed d_ref41_Crossed NN x0 n) x0 w19_0 w19_1 w19_7 w19_8 h) (v0 := .lst 10 b (l.map encV)) (sch := sch) (b2 := b2) (i := i) (base := totI sch i) (h := h) hs (by omega) (by omega) NN 0 (by omega) (by have := NN_ge; omega)
      rw [show pI sch i 0 = 0 from rfl, Int.add_zero, ← totI_succ] at this
      refine this.trans ?_
      simp -implicitDefEqProofs only [f_ref41_Crossed_j4, f_ref41_Crossed_j3, arithK_add, hw]
      exact ih (i + 1) hi (by omega)
    · have : i = l.length := by omega
      subst this
      have c1 : ¬ ((l.length : Int) < (l.length : Int)) := by omega
      simp -implicitDefEqProofs only [f_ref41_Crossed_b2, lenK_lst, List.length_map, arithK_lss, c1, decide_false, condK_bool, Bool.false_eq_true, if_false]
      exact hx
theorem F_ref41_Crossed_val (l : List Envl) (b : Bool) (sch : List Int) (b2 : Bool) (hl : l.length < 1000) (hs : sch.length < 100000) (h : Hp) : F_ref41_Crossed [.lst 10 b (l.map encV), .lst 1 b2 (sch.map enI)] h = some (tupP (croS l sch), h) := by
  refine (F_ref41_Crossed_run (a0 := .lst 10 b (l.map encV)) (a1 := .lst 1 b2 (sch.map enI)) (v := tupP (croS l sch)) rfl ?_ h).trans rfl
  simp only [nrm, nrmC]
  have fs := F_ref41_start_val l b sch b2 hl (by omega)
  simp -implicitDefEqProofs only [f_ref41_Crossed, t_ref41_Crossed_50, callK_F, fs, eqK_int, Bool.true_xor, condK_bool]
  by_cases q : askS l sch = 0
  · have e1 : (askS l sch == 0) = true := by simpa using q
    obtain ⟨-, k1, -, k3⟩ := askS_ok q
    have hS : croS l sch = (totI sch l.length, 0) := by unfold croS; rw [if_neg (by simp [q]), crN_first k3]
    rw [hS]
    simp only [e1, Bool.not_true, Bool.false_eq_true, if_false]
    exact rcr_L2 (l := l) k1 hs rfl NN 0 (by omega) (by have := NN_ge; omega)
  · have e1 : (askS l sch == 0) = false := by simpa using q
    have hS : croS l sch = (0, askS l sch) := if_pos q
    rw [hS]
    simp only [e1, Bool.not_false, if_true]
    rfl
theorem sameI_L2 {T : Tab} {D : DTab} {N : Nat} {x0 : Hp → Option AV} {xr : AV → Hp → Option AV} {a : List Int} {p q : Bool} {h : Hp} (hl : a.length < 1000000) : ∀ (n i : Nat), i ≤ a.length → a.length < i + n →
    f_ref33_Same_L2 Try.prog T D N x0 xr n (.lst 1 p (a.map enI)) (.lst 1 q (a.map enI)) (I i) h = x0 h := by
  intro n
  induction n with
  | zero => intro i h1 h2; omega
  | succ n ih =>
    intro i h1 h2
    show f_ref33_Same_b2 Try.prog T D N (f_ref33_Same_L2 Try.prog T D N x0 xr n) x0 xr _ _ _ h = _
    rcases Nat.lt_or_ge i a.length with hi | hi
    · have hlt : ((i : Int) < (a.length : Int)) := by omega
      have hw : IntKind.i64.wrap ((i : Int) + 1) = ((i + 1 : Nat) : Int) := by rw [wrap64 (by omega) (by omega)]; omega
      have hk : a[i]? = some a[i] := List.getElem?_eq_getElem hi
      generalize a[i] = y at hk
      have ic : ∀ (p : Bool) (k : Go.AM.K AV), iaK 1 (.lst 1 p (a.map enI)) (I i) k = k (.ep (enI y) 0) := fun p k => iaK_at i rfl hk k
      have ld : ∀ k : Go.AM.K AV, ldK 1 false (.ep (enI y) 0) h k = k (I y) := fun k => rfl
      simp -implicitDefEqProofs only [f_ref33_Same_b2, lenK_lst, List.length_map, arithK_lss, hlt, decide_true, condK_bool, if_true, ic, ld, eqK_int, beq_self_eq_true, Bool.true_xor, Bool.not_true, Bool.false_eq_true, if_false, arithK_add, hw]
      exact ih (i + 1) hi (by omega)
    · have : i = a.length := by omega
      subst this
      have c1 : ¬ ((a.length : Int) < (a.length : Int)) := by omega
      simp -implicitDefEqProofs only [f_ref33_Same_b2, lenK_lst, List.length_map, arithK_lss, c1, decide_false, condK_bool, Bool.false_eq_true, if_false]
theorem same_I (a : List Int) (p q : Bool) (hl : a.length < 1000000) (h : Hp) : F_ref33_Same [.lst 1 p (a.map enI), .lst 1 q (a.map enI)] h = some (B true, h) := by
  refine F_ref33_Same_run (a0 := .lst 1 p (a.map enI)) (a1 := .lst 1 q (a.map enI)) rfl ?_ h
  simp only [nrm, nrmC]
  simp -implicitDefEqProofs only [f_ref33_Same, lenK_lst, List.length_map, eqK_int, beq_self_eq_true, Bool.true_xor, Bool.not_true, condK_bool, Bool.false_eq_true, if_false]
  exact (sameI_L2 hl NN 0 (by omega) (by have := NN_ge; omega)).trans rfl
theorem counts_law (l : List Envl) (b1 : Bool) (sch : List Int) (b2 : Bool) : F_law41_NetworkCounts [SL 10 encV b1 l, SL 1 enI b2 sch] [] = some (B true, []) := by
  refine F_law41_NetworkCounts_run (a0 := SL 10 encV b1 l) (a1 := SL 1 enI b2 sch) rfl ?_ []
  simp only [nrm, nrmC]
  have fw := F_law41_awake_val
  have ff := F_ref41_Few_val l (b1 && l.isEmpty) sch (b2 && sch.isEmpty)
  simp -implicitDefEqProofs only [f_law41_NetworkCounts, t_law41_NetworkCounts_10, t_law41_NetworkCounts_11, callK_F, fw, ff, notK_bool, Bool.not_true, condK_bool, Bool.false_eq_true, if_false, SL]
  cases hf : few41 l.length sch.length with
  | false => rfl
  | true =>
    obtain ⟨l1, l2⟩ := few41_bd hf
    have fcE : ∀ h, F_slices_Clone_Envelope [.lst 10 (b1 && l.isEmpty) (l.map encV)] h = some (.lst 10 (b1 && l.isEmpty) (l.map encV), h) := fun h => F_slices_Clone_Envelope_val l b1 (by omega) h
    have fcI : ∀ h, F_slices_Clone_int [.lst 1 (b2 && sch.isEmpty) (sch.map enI)] h = some (.lst 1 (b2 && sch.isEmpty) (sch.map enI), h) := fun h => F_slices_Clone_int_val sch b2 (by omega) h
    have f1 := fun h => F_network_Lost_val l (b1 && l.isEmpty) sch (b2 && sch.isEmpty) (by omega) (by omega) h
    have f2 := fun h => F_ref41_Lost_val l (b1 && l.isEmpty) sch (b2 && sch.isEmpty) l1 (by omega) h
    have f3 := fun h => F_network_Repeated_val l (b1 && l.isEmpty) sch (b2 && sch.isEmpty) (by omega) (by omega) h
    have f4 := fun h => F_ref41_Repeated_val l (b1 && l.isEmpty) sch (b2 && sch.isEmpty) l1 (by omega) h
    have f5 := fun h => F_network_Crossed_val l (b1 && l.isEmpty) sch (b2 && sch.isEmpty) (by omega) (by omega) h
    have f6 := fun h => F_ref41_Crossed_val l (b1 && l.isEmpty) sch (b2 && sch.isEmpty) l1 (by omega) h
    have ll : (lostS l sch).1.length < 1000000 := by
      unfold lostS
      split
      · simp
      · have := lostA_len (fstS sch) l.length
        show (lostA (fstS sch) l.length).length < 1000000
        omega
    have g1 := fun p q h => same_I (lostS l sch).1 p q ll h
    have tp : ∀ (a b : AV) (k : Go.AM.K AV), exK (.tup [a, b]) 0 k = k a := fun a b k => rfl
    have tq : ∀ (a b : AV) (k : Go.AM.K AV), exK (.tup [a, b]) 1 k = k b := fun a b k => rfl
    simp -implicitDefEqProofs only [Bool.not_true, Bool.false_eq_true, if_false, t_law41_NetworkCounts_13, t_law41_NetworkCounts_16, t_law41_NetworkCounts_22, t_law41_NetworkCounts_23, t_law41_NetworkCounts_24, t_law41_NetworkCounts_25, t_law41_NetworkCounts_26, t_law41_NetworkCounts_27, t_law41_NetworkCounts_28, callK_F, fcE, fcI, f1, f2, f3, f4, f5, f6, lostR, tupP, tp, tq, g1, eqK_int, beq_self_eq_true, Bool.false_xor, grpK_tt]
    rfl
end Go.AM

